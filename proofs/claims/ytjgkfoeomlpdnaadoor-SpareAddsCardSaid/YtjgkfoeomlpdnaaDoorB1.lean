/- A part of the proof: a calculus over values without addresses, and what the functions of the program compute in it. -/
import Derived.Test.YtjgkfoeomlpdnaaDoorA2
import Derived.Test.YtjgkfoeomlpdnaaDoorProg
import Derived.KernelRfl
/- Facts on the types of the program. -/
namespace Go.Vm
open Go Go.Proofs
theorem td24 : tdOf Tryd.prog 24 = some ⟨.struct #[⟨ "Length", 3, 0, false, "", "", 0⟩, ⟨ "Offsets", 3, 1, false, "", "", 8⟩, ⟨ "Cells", 22, 2, false, "", "", 16⟩], 3, 40, [.int .i64 0, .int .i64 0, .slice none 0 0]⟩ := by kernel_rfl
theorem td22 : tdOf Tryd.prog 22 = some ⟨.slice 29, 1, 24, [.slice none 0 0]⟩ := by kernel_rfl
theorem fa24_2 : aField (tdOf Tryd.prog 24) (tdOf Tryd.prog (fieldT (tdOf Tryd.prog 24) 2)) 2 = fa 2 := by have e : fieldT (tdOf Tryd.prog 24) 2 = 22 := (by rw [td24]; rfl); rw [e, td24, td22]; exact aField_eq (t := 22) rfl rfl
theorem ld22 : aLoad (tdOf Tryd.prog 22) = ld false 1 := by rw [td22]; exact aLoad_eq _
theorem len22 : aLen (tdOf Tryd.prog 22) = len_ := by rw [td22]; exact aLen_eq _ rfl
theorem td26 : tdOf Tryd.prog 26 = some ⟨.slice 3, 1, 24, [.slice none 0 0]⟩ := by kernel_rfl
theorem len26 : aLen (tdOf Tryd.prog 26) = len_ := by rw [td26]; exact aLen_eq _ rfl
theorem ld24 : aLoad (tdOf Tryd.prog 24) = ld true 3 := by rw [td24]; exact aLoad_eq _
theorem td29 : tdOf Tryd.prog 29 = some ⟨.struct #[⟨ "Slot", 3, 0, false, "", "", 0⟩, ⟨ "Offset", 3, 1, false, "", "", 8⟩, ⟨ "From", 3, 2, false, "", "", 16⟩, ⟨ "To", 3, 3, false, "", "", 24⟩, ⟨ "Flow", 3, 4, false, "", "", 32⟩], 5, 40, [.int .i64 0, .int .i64 0, .int .i64 0, .int .i64 0, .int .i64 0]⟩ := by kernel_rfl
theorem alc29 : aAlloc (tdOf Tryd.prog 29) = alc [.int .i64 0, .int .i64 0, .int .i64 0, .int .i64 0, .int .i64 0] := by rw [td29]; exact aAlloc_eq _ rfl
theorem sto29 : aStore (tdOf Tryd.prog 29) = sto 5 := by rw [td29]; exact aStore_eq _
theorem ld29 : aLoad (tdOf Tryd.prog 29) = ld true 5 := by rw [td29]; exact aLoad_eq _
theorem td3 : tdOf Tryd.prog 3 = some ⟨.int .i64, 1, 8, [.int .i64 0]⟩ := by kernel_rfl
theorem fa24_0 : aField (tdOf Tryd.prog 24) (tdOf Tryd.prog (fieldT (tdOf Tryd.prog 24) 0)) 0 = fa 0 := by have e : fieldT (tdOf Tryd.prog 24) 0 = 3 := (by rw [td24]; rfl); rw [e, td24, td3]; exact aField_eq (t := 3) rfl rfl
theorem ld3 : aLoad (tdOf Tryd.prog 3) = ld false 1 := by rw [td3]; exact aLoad_eq _
theorem fa24_1 : aField (tdOf Tryd.prog 24) (tdOf Tryd.prog (fieldT (tdOf Tryd.prog 24) 1)) 1 = fa 1 := by have e : fieldT (tdOf Tryd.prog 24) 1 = 3 := (by rw [td24]; rfl); rw [e, td24, td3]; exact aField_eq (t := 3) rfl rfl
theorem ix22 : aIndexAddr (tdOf Tryd.prog 22) (tdOf Tryd.prog (elemT (tdOf Tryd.prog 22))) = ixs 5 := by have e : elemT (tdOf Tryd.prog 22) = 29 := (by rw [td22]; rfl); rw [e, td22, td29]; exact aIndexAddr_eq rfl rfl
theorem fa29_0 : aField (tdOf Tryd.prog 29) (tdOf Tryd.prog (fieldT (tdOf Tryd.prog 29) 0)) 0 = fa 0 := by have e : fieldT (tdOf Tryd.prog 29) 0 = 3 := (by rw [td29]; rfl); rw [e, td29, td3]; exact aField_eq (t := 3) rfl rfl
theorem fa29_1 : aField (tdOf Tryd.prog 29) (tdOf Tryd.prog (fieldT (tdOf Tryd.prog 29) 1)) 1 = fa 1 := by have e : fieldT (tdOf Tryd.prog 29) 1 = 3 := (by rw [td29]; rfl); rw [e, td29, td3]; exact aField_eq (t := 3) rfl rfl
theorem td38 : tdOf Tryd.prog 38 = some ⟨.array 2 3, 2, 16, [.int .i64 0, .int .i64 0]⟩ := by kernel_rfl
theorem ix26 : aIndexAddr (tdOf Tryd.prog 26) (tdOf Tryd.prog (elemT (tdOf Tryd.prog 26))) = ixs 1 := by have e : elemT (tdOf Tryd.prog 26) = 3 := (by rw [td26]; rfl); rw [e, td26, td3]; exact aIndexAddr_eq rfl rfl
theorem td37 : tdOf Tryd.prog 37 = some ⟨.map 38 4, 1, 8, [.map none]⟩ := by kernel_rfl
theorem bld29 : aBuild (tdOf Tryd.prog) (tdOf Tryd.prog 29) = bld [(0, 1), (1, 1), (2, 1), (3, 1), (4, 1)] [.int .i64 0, .int .i64 0, .int .i64 0, .int .i64 0, .int .i64 0] := by rw [td29]; exact aBuild_eq _ _ (by simp [TD.known, td3]) _ (fun i => match i with | 0 => by simp [TD.place, tsz, td3] | 1 => by simp [TD.place, tsz, td3] | 2 => by simp [TD.place, tsz, td3] | 3 => by simp [TD.place, tsz, td3] | 4 => by simp [TD.place, tsz, td3] | _ + 5 => by simp [TD.place])
theorem bsl22 : aBuildSlice (tdOf Tryd.prog 22) (tdOf Tryd.prog (elemT (tdOf Tryd.prog 22))) = bsl 5 := by have e : elemT (tdOf Tryd.prog 22) = 29 := (by rw [td22]; rfl); rw [e, td22, td29]; exact aBuildSlice_eq rfl rfl
theorem bld24 : aBuild (tdOf Tryd.prog) (tdOf Tryd.prog 24) = bld [(0, 1), (1, 1), (2, 1)] [.int .i64 0, .int .i64 0, .slice none 0 0] := by rw [td24]; exact aBuild_eq _ _ (by simp [TD.known, td3, td22]) _ (fun i => match i with | 0 => by simp [TD.place, tsz, td3, td22] | 1 => by simp [TD.place, tsz, td3, td22] | 2 => by simp [TD.place, tsz, td3, td22] | _ + 3 => by simp [TD.place])
theorem alc24 : aAlloc (tdOf Tryd.prog 24) = alc [.int .i64 0, .int .i64 0, .slice none 0 0] := by rw [td24]; exact aAlloc_eq _ rfl
theorem sto24 : aStore (tdOf Tryd.prog 24) = sto 3 := by rw [td24]; exact aStore_eq _
theorem bsl26 : aBuildSlice (tdOf Tryd.prog 26) (tdOf Tryd.prog (elemT (tdOf Tryd.prog 26))) = bsl 1 := by have e : elemT (tdOf Tryd.prog 26) = 3 := (by rw [td26]; rfl); rw [e, td26, td3]; exact aBuildSlice_eq rfl rfl
theorem td30 : tdOf Tryd.prog 30 = some ⟨.int .i64, 1, 8, [.int .i64 0]⟩ := by kernel_rfl
theorem alc30 : aAlloc (tdOf Tryd.prog 30) = alc [.int .i64 0] := by rw [td30]; exact aAlloc_eq _ rfl
theorem ld26 : aLoad (tdOf Tryd.prog 26) = ld false 1 := by rw [td26]; exact aLoad_eq _
theorem sto30 : aStore (tdOf Tryd.prog 30) = sto 1 := by rw [td30]; exact aStore_eq _
theorem td64 : tdOf Tryd.prog 64 = some ⟨.slice 22, 1, 24, [.slice none 0 0]⟩ := by kernel_rfl
theorem bsl64 : aBuildSlice (tdOf Tryd.prog 64) (tdOf Tryd.prog (elemT (tdOf Tryd.prog 64))) = bsl 1 := by have e : elemT (tdOf Tryd.prog 64) = 22 := (by rw [td64]; rfl); rw [e, td64, td22]; exact aBuildSlice_eq rfl rfl
theorem alc22 : aAlloc (tdOf Tryd.prog 22) = alc [.slice none 0 0] := by rw [td22]; exact aAlloc_eq _ rfl
theorem sto22 : aStore (tdOf Tryd.prog 22) = sto 1 := by rw [td22]; exact aStore_eq _
theorem fa29_2 : aField (tdOf Tryd.prog 29) (tdOf Tryd.prog (fieldT (tdOf Tryd.prog 29) 2)) 2 = fa 2 := by have e : fieldT (tdOf Tryd.prog 29) 2 = 3 := (by rw [td29]; rfl); rw [e, td29, td3]; exact aField_eq (t := 3) rfl rfl
theorem sto3 : aStore (tdOf Tryd.prog 3) = sto 1 := by rw [td3]; exact aStore_eq _
theorem fa29_3 : aField (tdOf Tryd.prog 29) (tdOf Tryd.prog (fieldT (tdOf Tryd.prog 29) 3)) 3 = fa 3 := by have e : fieldT (tdOf Tryd.prog 29) 3 = 3 := (by rw [td29]; rfl); rw [e, td29, td3]; exact aField_eq (t := 3) rfl rfl
theorem td58 : tdOf Tryd.prog 58 = some ⟨.array 16 3, 16, 128, [.int .i64 0, .int .i64 0, .int .i64 0, .int .i64 0, .int .i64 0, .int .i64 0, .int .i64 0, .int .i64 0, .int .i64 0, .int .i64 0, .int .i64 0, .int .i64 0, .int .i64 0, .int .i64 0, .int .i64 0, .int .i64 0]⟩ := by kernel_rfl
theorem alc58 : aAlloc (tdOf Tryd.prog 58) = alc [.int .i64 0, .int .i64 0, .int .i64 0, .int .i64 0, .int .i64 0, .int .i64 0, .int .i64 0, .int .i64 0, .int .i64 0, .int .i64 0, .int .i64 0, .int .i64 0, .int .i64 0, .int .i64 0, .int .i64 0, .int .i64 0] := by rw [td58]; exact aAlloc_eq _ rfl
theorem ix58 (id o : Nat) (k : IntKind) (n : Int) : aIndexAddr (tdOf Tryd.prog 58) (tdOf Tryd.prog (elemT (tdOf Tryd.prog 58))) (.ptr id o) (.c (.int k n)) = ixa 16 1 (.ptr id o) (.c (.int k n)) := by have e : elemT (tdOf Tryd.prog 58) = 3 := (by rw [td58]; rfl); rw [e, td58, td3]; exact ixa_of (e := 3) rfl id o k n
theorem ld58 : aLoad (tdOf Tryd.prog 58) = ld true 16 := by rw [td58]; exact aLoad_eq _
theorem td69 : tdOf Tryd.prog 69 = some ⟨.slice 26, 1, 24, [.slice none 0 0]⟩ := by kernel_rfl
theorem bsl69 : aBuildSlice (tdOf Tryd.prog 69) (tdOf Tryd.prog (elemT (tdOf Tryd.prog 69))) = bsl 1 := by have e : elemT (tdOf Tryd.prog 69) = 26 := (by rw [td69]; rfl); rw [e, td69, td26]; exact aBuildSlice_eq rfl rfl
theorem apd26 : aAppend (tdOf Tryd.prog 26) (tdOf Tryd.prog (elemT (tdOf Tryd.prog 26))) (elemT (tdOf Tryd.prog 26)) = apd 3 1 8 := by have e : elemT (tdOf Tryd.prog 26) = 3 := (by rw [td26]; rfl); rw [e, td26, td3]; exact aAppend_eq rfl rfl _
theorem len64 : aLen (tdOf Tryd.prog 64) = len_ := by rw [td64]; exact aLen_eq _ rfl
theorem ix64 : aIndexAddr (tdOf Tryd.prog 64) (tdOf Tryd.prog (elemT (tdOf Tryd.prog 64))) = ixs 1 := by have e : elemT (tdOf Tryd.prog 64) = 22 := (by rw [td64]; rfl); rw [e, td64, td22]; exact aIndexAddr_eq rfl rfl
theorem apd22 : aAppend (tdOf Tryd.prog 22) (tdOf Tryd.prog (elemT (tdOf Tryd.prog 22))) (elemT (tdOf Tryd.prog 22)) = apd 29 5 40 := by have e : elemT (tdOf Tryd.prog 22) = 29 := (by rw [td22]; rfl); rw [e, td22, td29]; exact aAppend_eq rfl rfl _
theorem mks26 : aMake (tdOf Tryd.prog 26) (tdOf Tryd.prog (elemT (tdOf Tryd.prog 26))) (elemT (tdOf Tryd.prog 26)) = mks 3 1 8 [.int .i64 0] := by have e : elemT (tdOf Tryd.prog 26) = 3 := (by rw [td26]; rfl); rw [e, td26, td3]; exact aMake_eq rfl rfl rfl _
theorem len69 : aLen (tdOf Tryd.prog 69) = len_ := by rw [td69]; exact aLen_eq _ rfl
theorem ix69 : aIndexAddr (tdOf Tryd.prog 69) (tdOf Tryd.prog (elemT (tdOf Tryd.prog 69))) = ixs 1 := by have e : elemT (tdOf Tryd.prog 69) = 26 := (by rw [td69]; rfl); rw [e, td69, td26]; exact aIndexAddr_eq rfl rfl
theorem td74 : tdOf Tryd.prog 74 = some ⟨.struct #[⟨ "addr", 71, 0, false, "", "strings", 0⟩, ⟨ "buf", 72, 1, false, "", "strings", 8⟩], 2, 32, [.pointer none, .slice none 0 0]⟩ := by kernel_rfl
theorem alc74 : aAlloc (tdOf Tryd.prog 74) = alc [.pointer none, .slice none 0 0] := by rw [td74]; exact aAlloc_eq _ rfl
theorem td25 : tdOf Tryd.prog 25 = some ⟨.slice 3, 1, 24, [.slice none 0 0]⟩ := by kernel_rfl
theorem bsl25 : aBuildSlice (tdOf Tryd.prog 25) (tdOf Tryd.prog (elemT (tdOf Tryd.prog 25))) = bsl 1 := by have e : elemT (tdOf Tryd.prog 25) = 3 := (by rw [td25]; rfl); rw [e, td25, td3]; exact aBuildSlice_eq rfl rfl
theorem td80 : tdOf Tryd.prog 80 = some ⟨.array 5 3, 5, 40, [.int .i64 0, .int .i64 0, .int .i64 0, .int .i64 0, .int .i64 0]⟩ := by kernel_rfl
theorem alc80 : aAlloc (tdOf Tryd.prog 80) = alc [.int .i64 0, .int .i64 0, .int .i64 0, .int .i64 0, .int .i64 0] := by rw [td80]; exact aAlloc_eq _ rfl
theorem sto80 : aStore (tdOf Tryd.prog 80) = sto 5 := by rw [td80]; exact aStore_eq _
theorem fa29_4 : aField (tdOf Tryd.prog 29) (tdOf Tryd.prog (fieldT (tdOf Tryd.prog 29) 4)) 4 = fa 4 := by have e : fieldT (tdOf Tryd.prog 29) 4 = 3 := (by rw [td29]; rfl); rw [e, td29, td3]; exact aField_eq (t := 3) rfl rfl
theorem len25 : aLen (tdOf Tryd.prog 25) = len_ := by rw [td25]; exact aLen_eq _ rfl
theorem ix25 : aIndexAddr (tdOf Tryd.prog 25) (tdOf Tryd.prog (elemT (tdOf Tryd.prog 25))) = ixs 1 := by have e : elemT (tdOf Tryd.prog 25) = 3 := (by rw [td25]; rfl); rw [e, td25, td3]; exact aIndexAddr_eq rfl rfl
theorem td72 : tdOf Tryd.prog 72 = some ⟨.slice 5, 1, 24, [.slice none 0 0]⟩ := by kernel_rfl
theorem fa74_1 : aField (tdOf Tryd.prog 74) (tdOf Tryd.prog (fieldT (tdOf Tryd.prog 74) 1)) 1 = fa 1 := by have e : fieldT (tdOf Tryd.prog 74) 1 = 72 := (by rw [td74]; rfl); rw [e, td74, td72]; exact aField_eq (t := 72) rfl rfl
theorem ld72 : aLoad (tdOf Tryd.prog 72) = ld false 1 := by rw [td72]; exact aLoad_eq _
theorem sto72 : aStore (tdOf Tryd.prog 72) = sto 1 := by rw [td72]; exact aStore_eq _
theorem td9 : tdOf Tryd.prog 9 = some ⟨.string, 1, 16, [.string ByteArray.empty]⟩ := by kernel_rfl
theorem len72 : aLen (tdOf Tryd.prog 72) = len_ := by rw [td72]; exact aLen_eq _ rfl
theorem td71 : tdOf Tryd.prog 71 = some ⟨.pointer 74, 1, 8, [.pointer none]⟩ := by kernel_rfl
theorem fa74_0 : aField (tdOf Tryd.prog 74) (tdOf Tryd.prog (fieldT (tdOf Tryd.prog 74) 0)) 0 = fa 0 := by have e : fieldT (tdOf Tryd.prog 74) 0 = 71 := (by rw [td74]; rfl); rw [e, td74, td71]; exact aField_eq (t := 71) rfl rfl
theorem ld71 : aLoad (tdOf Tryd.prog 71) = ld false 1 := by rw [td71]; exact aLoad_eq _
theorem sto71 : aStore (tdOf Tryd.prog 71) = sto 1 := by rw [td71]; exact aStore_eq _
theorem td93 : tdOf Tryd.prog 93 = some ⟨.array 24 5, 24, 24, [.int .u8 0, .int .u8 0, .int .u8 0, .int .u8 0, .int .u8 0, .int .u8 0, .int .u8 0, .int .u8 0, .int .u8 0, .int .u8 0, .int .u8 0, .int .u8 0, .int .u8 0, .int .u8 0, .int .u8 0, .int .u8 0, .int .u8 0, .int .u8 0, .int .u8 0, .int .u8 0, .int .u8 0, .int .u8 0, .int .u8 0, .int .u8 0]⟩ := by kernel_rfl
theorem alc93 : aAlloc (tdOf Tryd.prog 93) = alc [.int .u8 0, .int .u8 0, .int .u8 0, .int .u8 0, .int .u8 0, .int .u8 0, .int .u8 0, .int .u8 0, .int .u8 0, .int .u8 0, .int .u8 0, .int .u8 0, .int .u8 0, .int .u8 0, .int .u8 0, .int .u8 0, .int .u8 0, .int .u8 0, .int .u8 0, .int .u8 0, .int .u8 0, .int .u8 0, .int .u8 0, .int .u8 0] := by rw [td93]; exact aAlloc_eq _ rfl
theorem td2 : tdOf Tryd.prog 2 = some ⟨.int .i64, 1, 8, [.int .i64 0]⟩ := by kernel_rfl
theorem td94 : tdOf Tryd.prog 94 = some ⟨.int .u64, 1, 8, [.int .u64 0]⟩ := by kernel_rfl
theorem cnv2_94 : aConv (tdOf Tryd.prog 2) (tdOf Tryd.prog 94) = cnv .u64 := by rw [td2, td94]; exact aConv_eq rfl rfl
theorem td5 : tdOf Tryd.prog 5 = some ⟨.int .u8, 1, 1, [.int .u8 0]⟩ := by kernel_rfl
theorem ix93 (id o : Nat) (k : IntKind) (n : Int) : aIndexAddr (tdOf Tryd.prog 93) (tdOf Tryd.prog (elemT (tdOf Tryd.prog 93))) (.ptr id o) (.c (.int k n)) = ixa 24 1 (.ptr id o) (.c (.int k n)) := by have e : elemT (tdOf Tryd.prog 93) = 5 := (by rw [td93]; rfl); rw [e, td93, td5]; exact ixa_of (e := 5) rfl id o k n
theorem sto5 : aStore (tdOf Tryd.prog 5) = sto 1 := by rw [td5]; exact aStore_eq _
theorem td101 : tdOf Tryd.prog 101 = some ⟨.array 20 94, 20, 160, [.int .u64 0, .int .u64 0, .int .u64 0, .int .u64 0, .int .u64 0, .int .u64 0, .int .u64 0, .int .u64 0, .int .u64 0, .int .u64 0, .int .u64 0, .int .u64 0, .int .u64 0, .int .u64 0, .int .u64 0, .int .u64 0, .int .u64 0, .int .u64 0, .int .u64 0, .int .u64 0]⟩ := by kernel_rfl
theorem ix101 (id o : Nat) (k : IntKind) (n : Int) : aIndexAddr (tdOf Tryd.prog 101) (tdOf Tryd.prog (elemT (tdOf Tryd.prog 101))) (.ptr id o) (.c (.int k n)) = ixa 20 1 (.ptr id o) (.c (.int k n)) := by have e : elemT (tdOf Tryd.prog 101) = 94 := (by rw [td101]; rfl); rw [e, td101, td94]; exact ixa_of (e := 94) rfl id o k n
theorem ld94 : aLoad (tdOf Tryd.prog 94) = ld false 1 := by rw [td94]; exact aLoad_eq _
theorem td102 : tdOf Tryd.prog 102 = some ⟨.int .u32, 1, 4, [.int .u32 0]⟩ := by kernel_rfl
theorem cnv94_102 : aConv (tdOf Tryd.prog 94) (tdOf Tryd.prog 102) = cnv .u32 := by rw [td94, td102]; exact aConv_eq rfl rfl
theorem ix72 : aIndexAddr (tdOf Tryd.prog 72) (tdOf Tryd.prog (elemT (tdOf Tryd.prog 72))) = ixs 1 := by have e : elemT (tdOf Tryd.prog 72) = 5 := (by rw [td72]; rfl); rw [e, td72, td5]; exact aIndexAddr_eq rfl rfl
theorem cnv102_5 : aConv (tdOf Tryd.prog 102) (tdOf Tryd.prog 5) = cnv .u8 := by rw [td102, td5]; exact aConv_eq rfl rfl
theorem td103 : tdOf Tryd.prog 103 = some ⟨.array 65 5, 65, 65, [.int .u8 0, .int .u8 0, .int .u8 0, .int .u8 0, .int .u8 0, .int .u8 0, .int .u8 0, .int .u8 0, .int .u8 0, .int .u8 0, .int .u8 0, .int .u8 0, .int .u8 0, .int .u8 0, .int .u8 0, .int .u8 0, .int .u8 0, .int .u8 0, .int .u8 0, .int .u8 0, .int .u8 0, .int .u8 0, .int .u8 0, .int .u8 0, .int .u8 0, .int .u8 0, .int .u8 0, .int .u8 0, .int .u8 0, .int .u8 0, .int .u8 0, .int .u8 0, .int .u8 0, .int .u8 0, .int .u8 0, .int .u8 0, .int .u8 0, .int .u8 0, .int .u8 0, .int .u8 0, .int .u8 0, .int .u8 0, .int .u8 0, .int .u8 0, .int .u8 0, .int .u8 0, .int .u8 0, .int .u8 0, .int .u8 0, .int .u8 0, .int .u8 0, .int .u8 0, .int .u8 0, .int .u8 0, .int .u8 0, .int .u8 0, .int .u8 0, .int .u8 0, .int .u8 0, .int .u8 0, .int .u8 0, .int .u8 0, .int .u8 0, .int .u8 0, .int .u8 0]⟩ := by kernel_rfl
theorem alc103 : aAlloc (tdOf Tryd.prog 103) = alc [.int .u8 0, .int .u8 0, .int .u8 0, .int .u8 0, .int .u8 0, .int .u8 0, .int .u8 0, .int .u8 0, .int .u8 0, .int .u8 0, .int .u8 0, .int .u8 0, .int .u8 0, .int .u8 0, .int .u8 0, .int .u8 0, .int .u8 0, .int .u8 0, .int .u8 0, .int .u8 0, .int .u8 0, .int .u8 0, .int .u8 0, .int .u8 0, .int .u8 0, .int .u8 0, .int .u8 0, .int .u8 0, .int .u8 0, .int .u8 0, .int .u8 0, .int .u8 0, .int .u8 0, .int .u8 0, .int .u8 0, .int .u8 0, .int .u8 0, .int .u8 0, .int .u8 0, .int .u8 0, .int .u8 0, .int .u8 0, .int .u8 0, .int .u8 0, .int .u8 0, .int .u8 0, .int .u8 0, .int .u8 0, .int .u8 0, .int .u8 0, .int .u8 0, .int .u8 0, .int .u8 0, .int .u8 0, .int .u8 0, .int .u8 0, .int .u8 0, .int .u8 0, .int .u8 0, .int .u8 0, .int .u8 0, .int .u8 0, .int .u8 0, .int .u8 0, .int .u8 0] := by rw [td103]; exact aAlloc_eq _ rfl
theorem td104 : tdOf Tryd.prog 104 = some ⟨.int .u64, 1, 8, [.int .u64 0]⟩ := by kernel_rfl
theorem cnv3_104 : aConv (tdOf Tryd.prog 3) (tdOf Tryd.prog 104) = cnv .u64 := by rw [td3, td104]; exact aConv_eq rfl rfl
theorem cnv3_94 : aConv (tdOf Tryd.prog 3) (tdOf Tryd.prog 94) = cnv .u64 := by rw [td3, td94]; exact aConv_eq rfl rfl
theorem ix103 (id o : Nat) (k : IntKind) (n : Int) : aIndexAddr (tdOf Tryd.prog 103) (tdOf Tryd.prog (elemT (tdOf Tryd.prog 103))) (.ptr id o) (.c (.int k n)) = ixa 65 1 (.ptr id o) (.c (.int k n)) := by have e : elemT (tdOf Tryd.prog 103) = 5 := (by rw [td103]; rfl); rw [e, td103, td5]; exact ixa_of (e := 5) rfl id o k n
theorem apd72 : aAppend (tdOf Tryd.prog 72) (tdOf Tryd.prog (elemT (tdOf Tryd.prog 72))) (elemT (tdOf Tryd.prog 72)) = apd 5 1 1 := by have e : elemT (tdOf Tryd.prog 72) = 5 := (by rw [td72]; rfl); rw [e, td72, td5]; exact aAppend_eq rfl rfl _
theorem cnv94_5 : aConv (tdOf Tryd.prog 94) (tdOf Tryd.prog 5) = cnv .u8 := by rw [td94, td5]; exact aConv_eq rfl rfl
theorem cnv5_3 : aConv (tdOf Tryd.prog 5) (tdOf Tryd.prog 3) = cnv .i64 := by rw [td5, td3]; exact aConv_eq rfl rfl
theorem cnv104_102 : aConv (tdOf Tryd.prog 104) (tdOf Tryd.prog 102) = cnv .u32 := by rw [td104, td102]; exact aConv_eq rfl rfl
theorem td107 : tdOf Tryd.prog 107 = some ⟨.array 32 5, 32, 32, [.int .u8 0, .int .u8 0, .int .u8 0, .int .u8 0, .int .u8 0, .int .u8 0, .int .u8 0, .int .u8 0, .int .u8 0, .int .u8 0, .int .u8 0, .int .u8 0, .int .u8 0, .int .u8 0, .int .u8 0, .int .u8 0, .int .u8 0, .int .u8 0, .int .u8 0, .int .u8 0, .int .u8 0, .int .u8 0, .int .u8 0, .int .u8 0, .int .u8 0, .int .u8 0, .int .u8 0, .int .u8 0, .int .u8 0, .int .u8 0, .int .u8 0, .int .u8 0]⟩ := by kernel_rfl
theorem ix107 (id o : Nat) (k : IntKind) (n : Int) : aIndexAddr (tdOf Tryd.prog 107) (tdOf Tryd.prog (elemT (tdOf Tryd.prog 107))) (.ptr id o) (.c (.int k n)) = ixa 32 1 (.ptr id o) (.c (.int k n)) := by have e : elemT (tdOf Tryd.prog 107) = 5 := (by rw [td107]; rfl); rw [e, td107, td5]; exact ixa_of (e := 5) rfl id o k n
theorem ld5 : aLoad (tdOf Tryd.prog 5) = ld false 1 := by rw [td5]; exact aLoad_eq _
theorem td108 : tdOf Tryd.prog 108 = some ⟨.array 64 5, 64, 64, [.int .u8 0, .int .u8 0, .int .u8 0, .int .u8 0, .int .u8 0, .int .u8 0, .int .u8 0, .int .u8 0, .int .u8 0, .int .u8 0, .int .u8 0, .int .u8 0, .int .u8 0, .int .u8 0, .int .u8 0, .int .u8 0, .int .u8 0, .int .u8 0, .int .u8 0, .int .u8 0, .int .u8 0, .int .u8 0, .int .u8 0, .int .u8 0, .int .u8 0, .int .u8 0, .int .u8 0, .int .u8 0, .int .u8 0, .int .u8 0, .int .u8 0, .int .u8 0, .int .u8 0, .int .u8 0, .int .u8 0, .int .u8 0, .int .u8 0, .int .u8 0, .int .u8 0, .int .u8 0, .int .u8 0, .int .u8 0, .int .u8 0, .int .u8 0, .int .u8 0, .int .u8 0, .int .u8 0, .int .u8 0, .int .u8 0, .int .u8 0, .int .u8 0, .int .u8 0, .int .u8 0, .int .u8 0, .int .u8 0, .int .u8 0, .int .u8 0, .int .u8 0, .int .u8 0, .int .u8 0, .int .u8 0, .int .u8 0, .int .u8 0, .int .u8 0]⟩ := by kernel_rfl
theorem ix108 (id o : Nat) (k : IntKind) (n : Int) : aIndexAddr (tdOf Tryd.prog 108) (tdOf Tryd.prog (elemT (tdOf Tryd.prog 108))) (.ptr id o) (.c (.int k n)) = ixa 64 1 (.ptr id o) (.c (.int k n)) := by have e : elemT (tdOf Tryd.prog 108) = 5 := (by rw [td108]; rfl); rw [e, td108, td5]; exact ixa_of (e := 5) rfl id o k n
theorem sto107 : aStore (tdOf Tryd.prog 107) = sto 32 := by rw [td107]; exact aStore_eq _
theorem sto108 : aStore (tdOf Tryd.prog 108) = sto 64 := by rw [td108]; exact aStore_eq _
theorem sto101 : aStore (tdOf Tryd.prog 101) = sto 20 := by rw [td101]; exact aStore_eq _
end Go.Vm
/- Contracts: small functions. -/
namespace Go.Vm
open Go Go.RowKit Go.Proofs
set_option linter.unusedSimpArgs false
set_option linter.unusedVariables false

structure Cell where
  slot : Int
  offset : Int
  src : Int
  to : Int
  flow : Int

def cellV (c : Cell) : List Val := [.c (.int .i64 c.slot), .c (.int .i64 c.offset), .c (.int .i64 c.src), .c (.int .i64 c.to), .c (.int .i64 c.flow)]
def iv (n : Int) : List Val := [.c (.int .i64 n)]
theorem cellV_len (c : Cell) : (cellV c).length = 5 := rfl
theorem cellV_take (c : Cell) : (cellV c).take 5 = cellV c := rfl

theorem f30_ok {G} (a lo hi : Int) (h : Hp) : VPure Tryd.prog G (.fn 30 []) [.c (.int .i64 a), .c (.int .i64 lo), .c (.int .i64 hi)] h (.c (.bool (decide (lo ≤ a) && decide (a ≤ hi)))) := by
  refine VCall_fn' (tdOf_ok _) Tryd.func30 rfl (by rfl) 15 rfl (by simp) (by simp only [ents, List.cons_append, List.nil_append, List.append_nil] <;> rfl) (fun hk ha hc => ?_)
  with_reducible repeat (first | refine n1 ?_ | refine n2 ?_ | refine n3 ?_ | refine n4 ?_ | refine n5 ?_ | refine n6 ?_ | refine n7 rfl ?_ | refine W_seq ?_ | refine W_block ?_ | refine W_skip ?_ | refine W_exit ?_ | refine W_ret ?_)
  cases h1 : decide (lo ≤ a) <;> cases h2 : decide (a ≤ hi)
  all_goals
    refine W_go (by simp only [ev0, ev1, ev2, ev3, ev4, Nat.reduceLT, Nat.reduceLeDiff, Nat.reduceEqDiff, Nat.reduceAdd, Nat.reduceMul, Nat.reduceBEq, reduceCtorEq] <;> rfl) (Nat.le_of_ble_eq_true rfl) ?_
    refine WL_end ?_
    with_reducible repeat (first | refine n1 ?_ | refine n2 ?_ | refine n3 ?_ | refine n4 ?_ | refine n5 ?_ | refine n6 ?_ | refine n7 rfl ?_ | refine W_seq ?_ | refine W_block ?_ | refine W_skip ?_ | refine W_exit ?_ | refine W_ret ?_)
    refine W_go (by simp only [ev0, ev1, ev2, ev3, ev4, Nat.reduceLT, Nat.reduceLeDiff, Nat.reduceEqDiff, Nat.reduceAdd, Nat.reduceMul, Nat.reduceBEq, reduceCtorEq, h1, h2] <;> rfl) (Nat.le_of_ble_eq_true rfl) ?_
    refine WL_endk (ks := [6]) (by simp only [ev0, ev4, Nat.reduceEqDiff] <;> rfl) ?_
    with_reducible repeat (first | refine n1 ?_ | refine n2 ?_ | refine n3 ?_ | refine n4 ?_ | refine n5 ?_ | refine n6 ?_ | refine n7 rfl ?_ | refine W_seq ?_ | refine W_block ?_ | refine W_skip ?_ | refine W_exit ?_ | refine W_ret ?_)
    refine Fin_pure [] _ (by first | exact .inl rfl | exact .inr rfl) rfl (by simp only [Tryd.results30, vres, vresL, vres1, one_, vload_eq, Option.map_some, ev0, ev3, ev4, Nat.reduceEqDiff, Nat.reduceAdd, Nat.reduceLeDiff] <;> rfl) rfl (by simp only [one_, rf_c, rf_any, rf_sl, rf_ptr, rf_fn, rf_agg, rf_tup, rf, List.map_cons, List.map_nil] <;> rfl) hk (by simp) ?_
    exact ⟨rfl, rfl⟩

theorem f42_ok {G} (a lo hi : Int) (h : Hp) : VPure Tryd.prog G (.fn 42 []) [.c (.int .i64 a), .c (.int .i64 lo), .c (.int .i64 hi)] h (.c (.bool (decide (lo ≤ a) && decide (a ≤ hi)))) := by
  refine VCall_fn' (tdOf_ok _) Tryd.func42 rfl (by rfl) 15 rfl (by simp) (by simp only [ents, List.cons_append, List.nil_append, List.append_nil] <;> rfl) (fun hk ha hc => ?_)
  with_reducible repeat (first | refine n1 ?_ | refine n2 ?_ | refine n3 ?_ | refine n4 ?_ | refine n5 ?_ | refine n6 ?_ | refine n7 rfl ?_ | refine W_seq ?_ | refine W_block ?_ | refine W_skip ?_ | refine W_exit ?_ | refine W_ret ?_)
  cases h1 : decide (lo ≤ a) <;> cases h2 : decide (a ≤ hi)
  all_goals
    refine W_go (by simp only [ev0, ev1, ev2, ev3, ev4, Nat.reduceLT, Nat.reduceLeDiff, Nat.reduceEqDiff, Nat.reduceAdd, Nat.reduceMul, Nat.reduceBEq, reduceCtorEq] <;> rfl) (Nat.le_of_ble_eq_true rfl) ?_
    refine WL_end ?_
    with_reducible repeat (first | refine n1 ?_ | refine n2 ?_ | refine n3 ?_ | refine n4 ?_ | refine n5 ?_ | refine n6 ?_ | refine n7 rfl ?_ | refine W_seq ?_ | refine W_block ?_ | refine W_skip ?_ | refine W_exit ?_ | refine W_ret ?_)
    refine W_go (by simp only [ev0, ev1, ev2, ev3, ev4, Nat.reduceLT, Nat.reduceLeDiff, Nat.reduceEqDiff, Nat.reduceAdd, Nat.reduceMul, Nat.reduceBEq, reduceCtorEq, h1, h2] <;> rfl) (Nat.le_of_ble_eq_true rfl) ?_
    refine WL_endk (ks := [6]) (by simp only [ev0, ev4, Nat.reduceEqDiff] <;> rfl) ?_
    with_reducible repeat (first | refine n1 ?_ | refine n2 ?_ | refine n3 ?_ | refine n4 ?_ | refine n5 ?_ | refine n6 ?_ | refine n7 rfl ?_ | refine W_seq ?_ | refine W_block ?_ | refine W_skip ?_ | refine W_exit ?_ | refine W_ret ?_)
    refine Fin_pure [] _ (by first | exact .inl rfl | exact .inr rfl) rfl (by simp only [Tryd.results42, vres, vresL, vres1, one_, vload_eq, Option.map_some, ev0, ev3, ev4, Nat.reduceEqDiff, Nat.reduceAdd, Nat.reduceLeDiff] <;> rfl) rfl (by simp only [one_, rf_c, rf_any, rf_sl, rf_ptr, rf_fn, rf_agg, rf_tup, rf, List.map_cons, List.map_nil] <;> rfl) hk (by simp) ?_
    exact ⟨rfl, rfl⟩

theorem f35_ok {G} (k : Int) (h : Hp) : VCall Tryd.prog G (.fn 35 []) [.c (.int .i64 k)] h (fun r h' => r = .fn 46 [.ptr (List.length h) 0] ∧ h' = h ++ [.blk [.c (.int .i64 k)]]) := by
  refine VCall_fn' (tdOf_ok _) Tryd.func35 rfl (by rfl) 4 rfl (by simp) (by simp only [ents, List.cons_append, List.nil_append, List.append_nil] <;> rfl) (fun hk ha hc => ?_)
  with_reducible repeat (first | refine n1 ?_ | refine n2 ?_ | refine n3 ?_ | refine n4 ?_ | refine n5 ?_ | refine n6 ?_ | refine n7 rfl ?_ | refine W_seq ?_ | refine W_block ?_ | refine W_skip ?_ | refine W_exit ?_ | refine W_ret ?_)
  refine W_go (by simp only [ev0, ev1, ev2, ev3, ev4, Nat.reduceLT, Nat.reduceLeDiff, Nat.reduceEqDiff, Nat.reduceAdd, Nat.reduceMul, Nat.reduceBEq, reduceCtorEq] <;> rfl) (Nat.le_of_ble_eq_true rfl) ?_
  refine WL_end ?_
  with_reducible repeat (first | refine n1 ?_ | refine n2 ?_ | refine n3 ?_ | refine n4 ?_ | refine n5 ?_ | refine n6 ?_ | refine n7 rfl ?_ | refine W_seq ?_ | refine W_block ?_ | refine W_skip ?_ | refine W_exit ?_ | refine W_ret ?_)
  refine W_go (by simp only [ev0, ev1, ev2, ev3, ev4, Nat.reduceLT, Nat.reduceLeDiff, Nat.reduceEqDiff, Nat.reduceAdd, Nat.reduceMul, Nat.reduceBEq, reduceCtorEq] <;> rfl) (Nat.le_of_ble_eq_true rfl) ?_
  refine WL_endk (ks := [2]) (by simp only [ev0, ev4, Nat.reduceEqDiff] <;> rfl) ?_
  with_reducible repeat (first | refine n1 ?_ | refine n2 ?_ | refine n3 ?_ | refine n4 ?_ | refine n5 ?_ | refine n6 ?_ | refine n7 rfl ?_ | refine W_seq ?_ | refine W_block ?_ | refine W_skip ?_ | refine W_exit ?_ | refine W_ret ?_)
  refine Fin_ext [.blk [.c (.int .i64 k)]] _ (by first | exact .inl rfl | exact .inr rfl) rfl (by simp only [Tryd.results35, vres, vresL, vres1, one_, vload_eq, Option.map_some, ev0, ev3, ev4, Nat.reduceEqDiff, Nat.reduceAdd, Nat.reduceLeDiff] <;> rfl) rfl (by simp only [one_, rf_c, rf_any, rf_sl, rf_ptr, rf_fn, rf_agg, rf_tup, rf, List.map_cons, List.map_nil] <;> rfl) hk ?_ ?_ ?_
  · simp [OkO]
  · simp
  · exact ⟨rfl, rfl⟩

theorem f46_ok {G} (m k : Int) (id : Nat) (h : Hp) (hid : h.get id = .blk [.c (.int .i64 k)]) (hk0 : 0 ≤ k) : VPure Tryd.prog G (.fn 46 [.ptr id 0]) [.c (.int .i64 m)] h (.c (.bool (decide (m < 0) || decide (ishl .i64 1 k ≤ m)))) := by
  refine VCall_fn' (tdOf_ok _) Tryd.func46 rfl (by rfl) 12 rfl (by simp) (by simp only [ents, List.cons_append, List.nil_append, List.append_nil] <;> rfl) (fun hk ha hc => ?_)
  with_reducible repeat (first | refine n1 ?_ | refine n2 ?_ | refine n3 ?_ | refine n4 ?_ | refine n5 ?_ | refine n6 ?_ | refine n7 rfl ?_ | refine W_seq ?_ | refine W_block ?_ | refine W_skip ?_ | refine W_exit ?_ | refine W_ret ?_)
  have hid' : Hp.get (h ++ []) id = .blk [.c (.int .i64 k)] := by rw [List.append_nil]; exact hid
  cases h1 : decide (m < 0) <;> cases h2 : decide (ishl .i64 1 k ≤ m)
  all_goals
    refine W_go (by simp only [ev0, ev1, ev2, ev3, ev4, Nat.reduceLT, Nat.reduceLeDiff, Nat.reduceEqDiff, Nat.reduceAdd, Nat.reduceMul, Nat.reduceBEq, reduceCtorEq, ld3] <;> rfl) (Nat.le_of_ble_eq_true rfl) ?_
    refine WL_end ?_
    with_reducible repeat (first | refine n1 ?_ | refine n2 ?_ | refine n3 ?_ | refine n4 ?_ | refine n5 ?_ | refine n6 ?_ | refine n7 rfl ?_ | refine W_seq ?_ | refine W_block ?_ | refine W_skip ?_ | refine W_exit ?_ | refine W_ret ?_)
    refine W_go (by simp only [ev0, ev1, ev2, ev3, ev4, Nat.reduceLT, Nat.reduceLeDiff, Nat.reduceEqDiff, Nat.reduceAdd, Nat.reduceMul, Nat.reduceBEq, reduceCtorEq, ld3, h1, h2, hid', hk0] <;> rfl) (Nat.le_of_ble_eq_true rfl) ?_
    refine WL_endk (ks := [3]) (by simp only [ev0, ev4, Nat.reduceEqDiff] <;> rfl) ?_
    with_reducible repeat (first | refine n1 ?_ | refine n2 ?_ | refine n3 ?_ | refine n4 ?_ | refine n5 ?_ | refine n6 ?_ | refine n7 rfl ?_ | refine W_seq ?_ | refine W_block ?_ | refine W_skip ?_ | refine W_exit ?_ | refine W_ret ?_)
    refine Fin_pure [] _ (by first | exact .inl rfl | exact .inr rfl) rfl (by simp only [Tryd.results46, vres, vresL, vres1, one_, vload_eq, Option.map_some, ev0, ev3, ev4, Nat.reduceEqDiff, Nat.reduceAdd, Nat.reduceLeDiff] <;> rfl) rfl (by simp only [one_, rf_c, rf_any, rf_sl, rf_ptr, rf_fn, rf_agg, rf_tup, rf, List.map_cons, List.map_nil] <;> rfl) hk (by simp) ?_
    exact ⟨rfl, rfl⟩

theorem f23_ok {G} (a : Int) (h : Hp) : VPure Tryd.prog G (.fn 23 []) [.c (.int .i64 a)] h (.c (.bool (decide (0 ≤ a) && decide (a < 32)))) := by
  refine VCall_fn' (tdOf_ok _) Tryd.func23 rfl (by rfl) 9 rfl (by simp) (by simp only [ents, List.cons_append, List.nil_append, List.append_nil] <;> rfl) (fun hk ha hc => ?_)
  with_reducible repeat (first | refine n1 ?_ | refine n2 ?_ | refine n3 ?_ | refine n4 ?_ | refine n5 ?_ | refine n6 ?_ | refine n7 rfl ?_ | refine W_seq ?_ | refine W_block ?_ | refine W_skip ?_ | refine W_exit ?_ | refine W_ret ?_)
  cases h1 : decide (0 ≤ a) <;> cases h2 : decide (a < 32)
  all_goals
    refine W_go (by simp only [ev0, ev1, ev2, ev3, ev4, Nat.reduceLT, Nat.reduceLeDiff, Nat.reduceEqDiff, Nat.reduceAdd, Nat.reduceMul, Nat.reduceBEq, reduceCtorEq] <;> rfl) (Nat.le_of_ble_eq_true rfl) ?_
    refine WL_end ?_
    with_reducible repeat (first | refine n1 ?_ | refine n2 ?_ | refine n3 ?_ | refine n4 ?_ | refine n5 ?_ | refine n6 ?_ | refine n7 rfl ?_ | refine W_seq ?_ | refine W_block ?_ | refine W_skip ?_ | refine W_exit ?_ | refine W_ret ?_)
    refine W_go (by simp only [ev0, ev1, ev2, ev3, ev4, Nat.reduceLT, Nat.reduceLeDiff, Nat.reduceEqDiff, Nat.reduceAdd, Nat.reduceMul, Nat.reduceBEq, reduceCtorEq, h1, h2] <;> rfl) (Nat.le_of_ble_eq_true rfl) ?_
    refine WL_endk (ks := [2]) (by simp only [ev0, ev4, Nat.reduceEqDiff] <;> rfl) ?_
    with_reducible repeat (first | refine n1 ?_ | refine n2 ?_ | refine n3 ?_ | refine n4 ?_ | refine n5 ?_ | refine n6 ?_ | refine n7 rfl ?_ | refine W_seq ?_ | refine W_block ?_ | refine W_skip ?_ | refine W_exit ?_ | refine W_ret ?_)
    refine Fin_pure [] _ (by first | exact .inl rfl | exact .inr rfl) rfl (by simp only [Tryd.results23, vres, vresL, vres1, one_, vload_eq, Option.map_some, ev0, ev3, ev4, Nat.reduceEqDiff, Nat.reduceAdd, Nat.reduceLeDiff] <;> rfl) rfl (by simp only [one_, rf_c, rf_any, rf_sl, rf_ptr, rf_fn, rf_agg, rf_tup, rf, List.map_cons, List.map_nil] <;> rfl) hk (by simp) ?_
    exact ⟨rfl, rfl⟩
end Go.Vm
/- Contracts: the closures over cells. -/
namespace Go.Vm
open Go Go.RowKit Go.Proofs
set_option linter.unusedSimpArgs false
set_option linter.unusedVariables false

def busyAt (slot a b : Int) (c : Cell) : Bool := c.slot == slot && (c.src == a || c.src == b || c.to == a || c.to == b)
def isAt (slot off : Int) (c : Cell) : Bool := c.slot == slot && c.offset == off

theorem five_ (a b c d e : Bool) : (a = false ∧ True ∧ True ∧ True ∧ True) ∨ (a = true ∧ b = true ∧ True ∧ True ∧ True) ∨ (a = true ∧ b = false ∧ c = true ∧ True ∧ True) ∨ (a = true ∧ b = false ∧ c = false ∧ d = true ∧ True) ∨
    (a = true ∧ b = false ∧ c = false ∧ d = false ∧ e = true) ∨ (a = true ∧ b = false ∧ c = false ∧ d = false ∧ e = false) := by cases a <;> cases b <;> cases c <;> cases d <;> cases e <;> simp

theorem f15_ok {G} (c : Cell) (slot off : Int) (i j : Nat) (h : Hp) (hi : h.get i = .blk (iv slot)) (hj : h.get j = .blk (iv off)) : VPure Tryd.prog G (.fn 15 [.ptr i 0, .ptr j 0]) [.agg (cellV c)] h (.c (.bool (isAt slot off c))) := by
  refine VCall_fn' (tdOf_ok _) Tryd.func15 rfl (by rfl) 15 rfl (by simp) (by simp only [ents, List.cons_append, List.nil_append, List.append_nil] <;> rfl) (fun hk ha hc => ?_)
  with_reducible repeat (first | refine n1 ?_ | refine n2 ?_ | refine n3 ?_ | refine n4 ?_ | refine n5 ?_ | refine n6 ?_ | refine n7 rfl ?_ | refine W_seq ?_ | refine W_block ?_ | refine W_skip ?_ | refine W_exit ?_ | refine W_ret ?_)
  have hi' : Hp.get (h ++ []) i = .blk (iv slot) := by rw [List.append_nil]; exact hi
  have hj' : Hp.get (h ++ []) j = .blk (iv off) := by rw [List.append_nil]; exact hj
  have hi2 : ∀ e, Hp.get (h ++ e) i = .blk (iv slot) := fun e => (get_append_l e (Hp.get_lt (by rw [hi]; rfl))).trans hi
  have hj2 : ∀ e, Hp.get (h ++ e) j = .blk (iv off) := fun e => (get_append_l e (Hp.get_lt (by rw [hj]; rfl))).trans hj
  cases h1 : c.slot == slot <;> cases h2 : c.offset == off
  all_goals
    refine W_go (by simp only [ev0, ev1, ev2, ev3, ev4, Nat.reduceLT, Nat.reduceLeDiff, Nat.reduceEqDiff, Nat.reduceAdd, Nat.reduceMul, Nat.reduceBEq, reduceCtorEq, fa29_0, ld3, fa29_1, cellV] <;> rfl) (Nat.le_of_ble_eq_true rfl) ?_
    refine WL_endk (ks := [1, 2, 3]) (by simp only [ev0, ev4, Nat.reduceEqDiff] <;> rfl) ?_
    with_reducible repeat (first | refine n1 ?_ | refine n2 ?_ | refine n3 ?_ | refine n4 ?_ | refine n5 ?_ | refine n6 ?_ | refine n7 rfl ?_ | refine W_seq ?_ | refine W_block ?_ | refine W_skip ?_ | refine W_exit ?_ | refine W_ret ?_)
    refine W_go (by simp only [ev0, ev1, ev2, ev3, ev4, Nat.reduceLT, Nat.reduceLeDiff, Nat.reduceEqDiff, Nat.reduceAdd, Nat.reduceMul, Nat.reduceBEq, reduceCtorEq, fa29_0, ld3, fa29_1, h1, h2, hi2, hj2, iv] <;> rfl) (Nat.le_of_ble_eq_true rfl) ?_
    refine WL_endk (ks := [4]) (by simp only [ev0, ev4, Nat.reduceEqDiff] <;> rfl) ?_
    with_reducible repeat (first | refine n1 ?_ | refine n2 ?_ | refine n3 ?_ | refine n4 ?_ | refine n5 ?_ | refine n6 ?_ | refine n7 rfl ?_ | refine W_seq ?_ | refine W_block ?_ | refine W_skip ?_ | refine W_exit ?_ | refine W_ret ?_)
    refine Fin_pure [.blk (cellV c)] _ (by first | exact .inl rfl | exact .inr rfl) rfl (by simp only [Tryd.results15, vres, vresL, vres1, one_, vload_eq, Option.map_some, ev0, ev3, ev4, Nat.reduceEqDiff, Nat.reduceAdd, Nat.reduceLeDiff] <;> rfl) rfl (by simp only [one_, rf_c, rf_any, rf_sl, rf_ptr, rf_fn, rf_agg, rf_tup, rf, List.map_cons, List.map_nil] <;> rfl) hk (by simp) ?_
    exact ⟨by simp [isAt, h1, h2], rfl⟩

theorem f14_ok {G} (c : Cell) (slot a b : Int) (i j k : Nat) (h : Hp) (hi : h.get i = .blk (iv slot)) (hj : h.get j = .blk (iv a)) (hl : h.get k = .blk (iv b)) : VPure Tryd.prog G (.fn 14 [.ptr i 0, .ptr j 0, .ptr k 0]) [.agg (cellV c)] h (.c (.bool (busyAt slot a b c))) := by
  refine VCall_fn' (tdOf_ok _) Tryd.func14 rfl (by rfl) 34 rfl (by simp) (by simp only [ents, List.cons_append, List.nil_append, List.append_nil] <;> rfl) (fun hk ha hc => ?_)
  with_reducible repeat (first | refine n1 ?_ | refine n2 ?_ | refine n3 ?_ | refine n4 ?_ | refine n5 ?_ | refine n6 ?_ | refine n7 rfl ?_ | refine W_seq ?_ | refine W_block ?_ | refine W_skip ?_ | refine W_exit ?_ | refine W_ret ?_)
  have hi2 : ∀ e, Hp.get (h ++ e) i = .blk (iv slot) := fun e => (get_append_l e (Hp.get_lt (by rw [hi]; rfl))).trans hi
  have hj2 : ∀ e, Hp.get (h ++ e) j = .blk (iv a) := fun e => (get_append_l e (Hp.get_lt (by rw [hj]; rfl))).trans hj
  have hl2 : ∀ e, Hp.get (h ++ e) k = .blk (iv b) := fun e => (get_append_l e (Hp.get_lt (by rw [hl]; rfl))).trans hl
  obtain ⟨h1, h2, h3, h4, h5⟩ | ⟨h1, h2, h3, h4, h5⟩ | ⟨h1, h2, h3, h4, h5⟩ | ⟨h1, h2, h3, h4, h5⟩ | ⟨h1, h2, h3, h4, h5⟩ | ⟨h1, h2, h3, h4, h5⟩ := five_ (c.slot == slot) (c.src == a) (c.src == b) (c.to == a) (c.to == b)
  all_goals
    refine W_go (by simp only [ev0, ev1, ev2, ev3, ev4, Nat.reduceLT, Nat.reduceLeDiff, Nat.reduceEqDiff, Nat.reduceAdd, Nat.reduceMul, Nat.reduceBEq, reduceCtorEq, fa29_0, ld3, fa29_2, fa29_3, cellV] <;> rfl) (Nat.le_of_ble_eq_true rfl) ?_
    refine WL_endk (ks := [1, 2, 3, 4]) (by simp only [ev0, ev4, Nat.reduceEqDiff] <;> rfl) ?_
    with_reducible repeat (first | refine n1 ?_ | refine n2 ?_ | refine n3 ?_ | refine n4 ?_ | refine n5 ?_ | refine n6 ?_ | refine n7 rfl ?_ | refine W_seq ?_ | refine W_block ?_ | refine W_skip ?_ | refine W_exit ?_ | refine W_ret ?_)
    refine W_go (by simp only [ev0, ev1, ev2, ev3, ev4, Nat.reduceLT, Nat.reduceLeDiff, Nat.reduceEqDiff, Nat.reduceAdd, Nat.reduceMul, Nat.reduceBEq, reduceCtorEq, fa29_0, ld3, fa29_2, fa29_3, h1, h2, h3, h4, h5, hi2, hj2, hl2, iv] <;> rfl) (Nat.le_of_ble_eq_true rfl) ?_
    refine WL_endk (ks := [5]) (by simp only [ev0, ev4, Nat.reduceEqDiff] <;> rfl) ?_
    with_reducible repeat (first | refine n1 ?_ | refine n2 ?_ | refine n3 ?_ | refine n4 ?_ | refine n5 ?_ | refine n6 ?_ | refine n7 rfl ?_ | refine W_seq ?_ | refine W_block ?_ | refine W_skip ?_ | refine W_exit ?_ | refine W_ret ?_)
    refine Fin_pure [.blk (cellV c)] _ (by first | exact .inl rfl | exact .inr rfl) rfl (by simp only [Tryd.results14, vres, vresL, vres1, one_, vload_eq, Option.map_some, ev0, ev3, ev4, Nat.reduceEqDiff, Nat.reduceAdd, Nat.reduceLeDiff] <;> rfl) rfl (by simp only [one_, rf_c, rf_any, rf_sl, rf_ptr, rf_fn, rf_agg, rf_tup, rf, List.map_cons, List.map_nil] <;> rfl) hk (by simp) ?_
    exact ⟨by simp [busyAt, h1, h2, h3, h4, h5], rfl⟩

theorem f27_ok {G} (c : Cell) (x1 x2 x3 x4 x5 a b : Int) (i j k : Nat) (h : Hp) (hi : h.get i = .blk (cellV ⟨x1, x2, x3, x4, x5⟩)) (hj : h.get j = .blk (iv a)) (hl : h.get k = .blk (iv b)) : VPure Tryd.prog G (.fn 27 [.ptr i 0, .ptr j 0, .ptr k 0]) [.agg (cellV c)] h (.c (.bool (busyAt x1 a b c))) := by
  refine VCall_fn' (tdOf_ok _) Tryd.func27 rfl (by rfl) 35 rfl (by simp) (by simp only [ents, List.cons_append, List.nil_append, List.append_nil] <;> rfl) (fun hk ha hc => ?_)
  with_reducible repeat (first | refine n1 ?_ | refine n2 ?_ | refine n3 ?_ | refine n4 ?_ | refine n5 ?_ | refine n6 ?_ | refine n7 rfl ?_ | refine W_seq ?_ | refine W_block ?_ | refine W_skip ?_ | refine W_exit ?_ | refine W_ret ?_)
  have hi2 : ∀ e, Hp.get (h ++ e) i = .blk (cellV ⟨x1, x2, x3, x4, x5⟩) := fun e => (get_append_l e (Hp.get_lt (by rw [hi]; rfl))).trans hi
  have hj2 : ∀ e, Hp.get (h ++ e) j = .blk (iv a) := fun e => (get_append_l e (Hp.get_lt (by rw [hj]; rfl))).trans hj
  have hl2 : ∀ e, Hp.get (h ++ e) k = .blk (iv b) := fun e => (get_append_l e (Hp.get_lt (by rw [hl]; rfl))).trans hl
  obtain ⟨h1, h2, h3, h4, h5⟩ | ⟨h1, h2, h3, h4, h5⟩ | ⟨h1, h2, h3, h4, h5⟩ | ⟨h1, h2, h3, h4, h5⟩ | ⟨h1, h2, h3, h4, h5⟩ | ⟨h1, h2, h3, h4, h5⟩ := five_ (c.slot == x1) (c.src == a) (c.src == b) (c.to == a) (c.to == b)
  all_goals
    refine W_go (by simp only [ev0, ev1, ev2, ev3, ev4, Nat.reduceLT, Nat.reduceLeDiff, Nat.reduceEqDiff, Nat.reduceAdd, Nat.reduceMul, Nat.reduceBEq, reduceCtorEq, fa29_0, ld3, fa29_2, fa29_3, cellV] <;> rfl) (Nat.le_of_ble_eq_true rfl) ?_
    refine WL_endk (ks := [1, 2, 3, 4]) (by simp only [ev0, ev4, Nat.reduceEqDiff] <;> rfl) ?_
    with_reducible repeat (first | refine n1 ?_ | refine n2 ?_ | refine n3 ?_ | refine n4 ?_ | refine n5 ?_ | refine n6 ?_ | refine n7 rfl ?_ | refine W_seq ?_ | refine W_block ?_ | refine W_skip ?_ | refine W_exit ?_ | refine W_ret ?_)
    refine W_go (by simp only [ev0, ev1, ev2, ev3, ev4, Nat.reduceLT, Nat.reduceLeDiff, Nat.reduceEqDiff, Nat.reduceAdd, Nat.reduceMul, Nat.reduceBEq, reduceCtorEq, fa29_0, ld3, fa29_2, fa29_3, h1, h2, h3, h4, h5, hi2, hj2, hl2, iv, cellV] <;> rfl) (Nat.le_of_ble_eq_true rfl) ?_
    refine WL_endk (ks := [5]) (by simp only [ev0, ev4, Nat.reduceEqDiff] <;> rfl) ?_
    with_reducible repeat (first | refine n1 ?_ | refine n2 ?_ | refine n3 ?_ | refine n4 ?_ | refine n5 ?_ | refine n6 ?_ | refine n7 rfl ?_ | refine W_seq ?_ | refine W_block ?_ | refine W_skip ?_ | refine W_exit ?_ | refine W_ret ?_)
    refine Fin_pure [.blk (cellV c)] _ (by first | exact .inl rfl | exact .inr rfl) rfl (by simp only [Tryd.results27, vres, vresL, vres1, one_, vload_eq, Option.map_some, ev0, ev3, ev4, Nat.reduceEqDiff, Nat.reduceAdd, Nat.reduceLeDiff] <;> rfl) rfl (by simp only [one_, rf_c, rf_any, rf_sl, rf_ptr, rf_fn, rf_agg, rf_tup, rf, List.map_cons, List.map_nil] <;> rfl) hk (by simp) ?_
    exact ⟨by simp [busyAt, h1, h2, h3, h4, h5], rfl⟩

theorem f28_ok {G} (c : Cell) (x1 x2 x3 x4 x5 : Int) (i : Nat) (h : Hp) (hi : h.get i = .blk (cellV ⟨x1, x2, x3, x4, x5⟩)) : VPure Tryd.prog G (.fn 28 [.ptr i 0]) [.agg (cellV c)] h (.c (.bool (isAt x1 x2 c))) := by
  refine VCall_fn' (tdOf_ok _) Tryd.func28 rfl (by rfl) 16 rfl (by simp) (by simp only [ents, List.cons_append, List.nil_append, List.append_nil] <;> rfl) (fun hk ha hc => ?_)
  with_reducible repeat (first | refine n1 ?_ | refine n2 ?_ | refine n3 ?_ | refine n4 ?_ | refine n5 ?_ | refine n6 ?_ | refine n7 rfl ?_ | refine W_seq ?_ | refine W_block ?_ | refine W_skip ?_ | refine W_exit ?_ | refine W_ret ?_)
  have hi2 : ∀ e, Hp.get (h ++ e) i = .blk (cellV ⟨x1, x2, x3, x4, x5⟩) := fun e => (get_append_l e (Hp.get_lt (by rw [hi]; rfl))).trans hi
  cases h1 : c.slot == x1 <;> cases h2 : c.offset == x2
  all_goals
    refine W_go (by simp only [ev0, ev1, ev2, ev3, ev4, Nat.reduceLT, Nat.reduceLeDiff, Nat.reduceEqDiff, Nat.reduceAdd, Nat.reduceMul, Nat.reduceBEq, reduceCtorEq, fa29_0, ld3, fa29_1, cellV] <;> rfl) (Nat.le_of_ble_eq_true rfl) ?_
    refine WL_endk (ks := [1, 2]) (by simp only [ev0, ev4, Nat.reduceEqDiff] <;> rfl) ?_
    with_reducible repeat (first | refine n1 ?_ | refine n2 ?_ | refine n3 ?_ | refine n4 ?_ | refine n5 ?_ | refine n6 ?_ | refine n7 rfl ?_ | refine W_seq ?_ | refine W_block ?_ | refine W_skip ?_ | refine W_exit ?_ | refine W_ret ?_)
    refine W_go (by simp only [ev0, ev1, ev2, ev3, ev4, Nat.reduceLT, Nat.reduceLeDiff, Nat.reduceEqDiff, Nat.reduceAdd, Nat.reduceMul, Nat.reduceBEq, reduceCtorEq, fa29_0, ld3, fa29_1, h1, h2, hi2, cellV] <;> rfl) (Nat.le_of_ble_eq_true rfl) ?_
    refine WL_endk (ks := [3]) (by simp only [ev0, ev4, Nat.reduceEqDiff] <;> rfl) ?_
    with_reducible repeat (first | refine n1 ?_ | refine n2 ?_ | refine n3 ?_ | refine n4 ?_ | refine n5 ?_ | refine n6 ?_ | refine n7 rfl ?_ | refine W_seq ?_ | refine W_block ?_ | refine W_skip ?_ | refine W_exit ?_ | refine W_ret ?_)
    refine Fin_pure [.blk (cellV c)] _ (by first | exact .inl rfl | exact .inr rfl) rfl (by simp only [Tryd.results28, vres, vresL, vres1, one_, vload_eq, Option.map_some, ev0, ev3, ev4, Nat.reduceEqDiff, Nat.reduceAdd, Nat.reduceLeDiff] <;> rfl) rfl (by simp only [one_, rf_c, rf_any, rf_sl, rf_ptr, rf_fn, rf_agg, rf_tup, rf, List.map_cons, List.map_nil] <;> rfl) hk (by simp) ?_
    exact ⟨by simp [isAt, h1, h2], rfl⟩
end Go.Vm
/- Contracts: searching in slices. -/
namespace Go.Vm
open Go Go.RowKit Go.Proofs
set_option linter.unusedSimpArgs false
set_option linter.unusedVariables false

/-- The first index at which p holds, from k on. -/
def idx {α : Type} (p : α → Bool) : List α → Nat → Int
  | [], _ => -1
  | x :: xs, k => if p x then k else idx p xs (k + 1)
theorem idx_ge {α : Type} (p : α → Bool) : ∀ (xs : List α) (k : Nat), decide (0 ≤ idx p xs k) = xs.any p
  | [], k => rfl
  | x :: xs, k => by
    unfold idx
    rw [List.any_cons]
    split
    · rename_i h; simp [h]
    · rename_i h; rw [idx_ge p xs (k + 1)]; simp [h]
theorem idx_drop {α : Type} (p : α → Bool) {xs : List α} {k : Nat} (h : k < xs.length) : idx p (xs.drop k) k = if p xs[k] then (k : Int) else idx p (xs.drop (k + 1)) (k + 1) := by
  rw [List.drop_eq_getElem_cons h]; rfl
theorem map_get {α : Type} {f : α → List Val} {xs : List α} {k : Nat} (h : k < xs.length) : (xs.map f)[k]? = some (f xs[k]) := by simp [h]

theorem f36_ok {G} (p : Cell → Bool) (fv : Val) (xs : List Cell) (h : Hp) (hlen : xs.length < 4611686018427387904)
    (hf : ∀ x, x ∈ xs → VPure Tryd.prog G fv [.agg (cellV x)] h (.c (.bool (p x)))) : VPure Tryd.prog G (.fn 36 []) [.sl 5 (xs.map cellV), fv] h (.c (.int .i64 (idx p xs 0))) := by
  refine VCall_fn' (tdOf_ok _) Tryd.func36 rfl (by rfl) 19 rfl (by simp) (by simp only [ents, List.cons_append, List.nil_append, List.append_nil] <;> rfl) (fun hk ha hc => ?_)
  with_reducible repeat (first | refine n1 ?_ | refine n2 ?_ | refine n3 ?_ | refine n4 ?_ | refine n5 ?_ | refine n6 ?_ | refine n7 rfl ?_ | refine W_seq ?_ | refine W_block ?_ | refine W_skip ?_ | refine W_exit ?_ | refine W_ret ?_)
  refine W_go (by simp only [ev0, ev1, ev2, ev3, ev4, Nat.reduceLT, Nat.reduceLeDiff, Nat.reduceEqDiff, Nat.reduceAdd, Nat.reduceMul, Nat.reduceBEq, reduceCtorEq, len22, ix22, ld29] <;> rfl) (Nat.le_of_ble_eq_true rfl) ?_
  refine WL_end ?_
  with_reducible repeat (first | refine n1 ?_ | refine n2 ?_ | refine n3 ?_ | refine n4 ?_ | refine n5 ?_ | refine n6 ?_ | refine n7 rfl ?_ | refine W_seq ?_ | refine W_block ?_ | refine W_skip ?_ | refine W_exit ?_ | refine W_ret ?_)
  refine W_go (by simp only [ev0, ev1, ev2, ev3, ev4, Nat.reduceLT, Nat.reduceLeDiff, Nat.reduceEqDiff, Nat.reduceAdd, Nat.reduceMul, Nat.reduceBEq, reduceCtorEq, len22, ix22, ld29] <;> rfl) (Nat.le_of_ble_eq_true rfl) ?_
  refine WL_endk (ks := [0, 1, 7, 8]) (by simp only [ev0, ev4, Nat.reduceEqDiff] <;> rfl) ?_
  with_reducible repeat (first | refine n1 ?_ | refine n2 ?_ | refine n3 ?_ | refine n4 ?_ | refine n5 ?_ | refine n6 ?_ | refine n7 rfl ?_ | refine W_seq ?_ | refine W_block ?_ | refine W_skip ?_ | refine W_exit ?_ | refine W_ret ?_)
  refine W_loopS (fun k : Nat => ⟨19, [(0, .sl 5 (xs.map cellV)), (1, fv), (7, .c (.int .i64 xs.length)), (8, .c (.int .i64 k))], h ++ [], []⟩) (fun k => k ≤ xs.length ∧ idx p xs 0 = idx p (xs.drop k) k) (fun k => xs.length - k) 0 (by simp) rfl (fun k hI => ?_)
  with_reducible repeat (first | refine n1 ?_ | refine n2 ?_ | refine n3 ?_ | refine n4 ?_ | refine n5 ?_ | refine n6 ?_ | refine n7 rfl ?_ | refine W_seq ?_ | refine W_block ?_ | refine W_skip ?_ | refine W_exit ?_ | refine W_ret ?_)
  refine W_go (by simp only [ev0, ev1, ev2, ev3, ev4, Nat.reduceLT, Nat.reduceLeDiff, Nat.reduceEqDiff, Nat.reduceAdd, Nat.reduceMul, Nat.reduceBEq, reduceCtorEq, len22, ix22, ld29] <;> rfl) (Nat.le_of_ble_eq_true rfl) ?_
  refine WL_end ?_
  with_reducible repeat (first | refine n1 ?_ | refine n2 ?_ | refine n3 ?_ | refine n4 ?_ | refine n5 ?_ | refine n6 ?_ | refine n7 rfl ?_ | refine W_seq ?_ | refine W_block ?_ | refine W_skip ?_ | refine W_exit ?_ | refine W_ret ?_)
  refine W_cond rfl (fun hb => ?_) (fun hb => ?_)
  · with_reducible repeat (first | refine n1 ?_ | refine n2 ?_ | refine n3 ?_ | refine n4 ?_ | refine n5 ?_ | refine n6 ?_ | refine n7 rfl ?_ | refine W_seq ?_ | refine W_block ?_ | refine W_skip ?_ | refine W_exit ?_ | refine W_ret ?_)
    refine W_go (by simp only [ev0, ev1, ev2, ev3, ev4, Nat.reduceLT, Nat.reduceLeDiff, Nat.reduceEqDiff, Nat.reduceAdd, Nat.reduceMul, Nat.reduceBEq, reduceCtorEq, len22, ix22, ld29] <;> rfl) (Nat.le_of_ble_eq_true rfl) ?_
    refine WL_end ?_
    with_reducible repeat (first | refine n1 ?_ | refine n2 ?_ | refine n3 ?_ | refine n4 ?_ | refine n5 ?_ | refine n6 ?_ | refine n7 rfl ?_ | refine W_seq ?_ | refine W_block ?_ | refine W_skip ?_ | refine W_exit ?_ | refine W_ret ?_)
    have hlt : k < xs.length := by simpa using hb
    have hx := map_get (f := cellV) hlt
    refine W_go (by simp only [ev0, ev1, ev2, ev3, ev4, Nat.reduceLT, Nat.reduceLeDiff, Nat.reduceEqDiff, Nat.reduceAdd, Nat.reduceMul, Nat.reduceBEq, reduceCtorEq, len22, ix22, ld29, hx, cellV_len, cellV_take] <;> rfl) (Nat.le_of_ble_eq_true rfl) ?_
    have hfx := (hf xs[k] (List.getElem_mem hlt)).frame hk (ha _ (by simp)) (by simp [cellV]) []
    refine WL_pure (hfx) rfl (.inl rfl) (by simp only [ev0, ev1, ev2, ev3, ev4, Nat.reduceLT, Nat.reduceLeDiff, Nat.reduceEqDiff, Nat.reduceAdd, Nat.reduceMul, Nat.reduceBEq, reduceCtorEq, len22, ix22, ld29] <;> rfl) (by simp only [ev0, ev1, ev2, ev3, ev4, Nat.reduceLT, Nat.reduceLeDiff, Nat.reduceEqDiff, Nat.reduceAdd, Nat.reduceMul, Nat.reduceBEq, reduceCtorEq, len22, ix22, ld29] <;> rfl) rfl (by simp only [ev0, ev1, ev2, ev3, ev4, Nat.reduceLT, Nat.reduceLeDiff, Nat.reduceEqDiff, Nat.reduceAdd, Nat.reduceMul, Nat.reduceBEq, reduceCtorEq, len22, ix22, ld29] <;> rfl) ?_
    refine WL_end ?_
    with_reducible repeat (first | refine n1 ?_ | refine n2 ?_ | refine n3 ?_ | refine n4 ?_ | refine n5 ?_ | refine n6 ?_ | refine n7 rfl ?_ | refine W_seq ?_ | refine W_block ?_ | refine W_skip ?_ | refine W_exit ?_ | refine W_ret ?_)
    refine W_cond rfl (fun hp => ?_) (fun hp => ?_)
    · with_reducible repeat (first | refine n1 ?_ | refine n2 ?_ | refine n3 ?_ | refine n4 ?_ | refine n5 ?_ | refine n6 ?_ | refine n7 rfl ?_ | refine W_seq ?_ | refine W_block ?_ | refine W_skip ?_ | refine W_exit ?_ | refine W_ret ?_)
      refine W_go (by simp only [ev0, ev1, ev2, ev3, ev4, Nat.reduceLT, Nat.reduceLeDiff, Nat.reduceEqDiff, Nat.reduceAdd, Nat.reduceMul, Nat.reduceBEq, reduceCtorEq, len22, ix22, ld29] <;> rfl) (Nat.le_of_ble_eq_true rfl) ?_
      refine WL_endk (ks := [4]) (by simp only [ev0, ev4, Nat.reduceEqDiff] <;> rfl) ?_
      with_reducible repeat (first | refine n1 ?_ | refine n2 ?_ | refine n3 ?_ | refine n4 ?_ | refine n5 ?_ | refine n6 ?_ | refine n7 rfl ?_ | refine W_seq ?_ | refine W_block ?_ | refine W_skip ?_ | refine W_exit ?_ | refine W_ret ?_)
      refine Fin_pure [] _ (by first | exact .inl rfl | exact .inr rfl) rfl (by simp only [Tryd.results36, vres, vresL, vres1, one_, vload_eq, Option.map_some, ev0, ev3, ev4, Nat.reduceEqDiff, Nat.reduceAdd, Nat.reduceLeDiff] <;> rfl) rfl (by simp only [one_, rf_c, rf_any, rf_sl, rf_ptr, rf_fn, rf_agg, rf_tup, rf, List.map_cons, List.map_nil] <;> rfl) hk (by simp) ?_
      exact ⟨by rw [hI.2, idx_drop p hlt, if_pos hp], rfl⟩
    · with_reducible repeat (first | refine n1 ?_ | refine n2 ?_ | refine n3 ?_ | refine n4 ?_ | refine n5 ?_ | refine n6 ?_ | refine n7 rfl ?_ | refine W_seq ?_ | refine W_block ?_ | refine W_skip ?_ | refine W_exit ?_ | refine W_ret ?_)
      refine W_go (by simp only [ev0, ev1, ev2, ev3, ev4, Nat.reduceLT, Nat.reduceLeDiff, Nat.reduceEqDiff, Nat.reduceAdd, Nat.reduceMul, Nat.reduceBEq, reduceCtorEq, len22, ix22, ld29] <;> rfl) (Nat.le_of_ble_eq_true rfl) ?_
      refine WL_endk (ks := [0, 1, 7, 8]) (by simp only [ev0, ev4, Nat.reduceEqDiff] <;> rfl) ?_
      with_reducible repeat (first | refine n1 ?_ | refine n2 ?_ | refine n3 ?_ | refine n4 ?_ | refine n5 ?_ | refine n6 ?_ | refine n7 rfl ?_ | refine W_seq ?_ | refine W_block ?_ | refine W_skip ?_ | refine W_exit ?_ | refine W_ret ?_)
      exact ⟨k + 1, by rw [wrap64 (by omega) (by omega)]; rfl, ⟨by omega, by rw [hI.2, idx_drop p hlt, if_neg (by rw [hp]; simp)]⟩, by omega⟩
  · with_reducible repeat (first | refine n1 ?_ | refine n2 ?_ | refine n3 ?_ | refine n4 ?_ | refine n5 ?_ | refine n6 ?_ | refine n7 rfl ?_ | refine W_seq ?_ | refine W_block ?_ | refine W_skip ?_ | refine W_exit ?_ | refine W_ret ?_)
    refine W_go (by simp only [ev0, ev1, ev2, ev3, ev4, Nat.reduceLT, Nat.reduceLeDiff, Nat.reduceEqDiff, Nat.reduceAdd, Nat.reduceMul, Nat.reduceBEq, reduceCtorEq, len22, ix22, ld29] <;> rfl) (Nat.le_of_ble_eq_true rfl) ?_
    refine WL_endk (ks := [4]) (by simp only [ev0, ev4, Nat.reduceEqDiff] <;> rfl) ?_
    with_reducible repeat (first | refine n1 ?_ | refine n2 ?_ | refine n3 ?_ | refine n4 ?_ | refine n5 ?_ | refine n6 ?_ | refine n7 rfl ?_ | refine W_seq ?_ | refine W_block ?_ | refine W_skip ?_ | refine W_exit ?_ | refine W_ret ?_)
    have hge : xs.length ≤ k := by simpa using hb
    refine Fin_pure [] _ (by first | exact .inl rfl | exact .inr rfl) rfl (by simp only [Tryd.results36, vres, vresL, vres1, one_, vload_eq, Option.map_some, ev0, ev3, ev4, Nat.reduceEqDiff, Nat.reduceAdd, Nat.reduceLeDiff] <;> rfl) rfl (by simp only [one_, rf_c, rf_any, rf_sl, rf_ptr, rf_fn, rf_agg, rf_tup, rf, List.map_cons, List.map_nil] <;> rfl) hk (by simp) ?_
    exact ⟨by rw [hI.2, List.drop_of_length_le hge]; rfl, rfl⟩

theorem f16_ok {G} (p : Cell → Bool) (fv : Val) (xs : List Cell) (h : Hp) (hlen : xs.length < 4611686018427387904)
    (hf : ∀ x, x ∈ xs → VPure Tryd.prog G fv [.agg (cellV x)] h (.c (.bool (p x)))) : VPure Tryd.prog G (.fn 16 []) [.sl 5 (xs.map cellV), fv] h (.c (.bool (xs.any p))) := by
  refine VCall_fn' (tdOf_ok _) Tryd.func16 rfl (by rfl) 9 rfl (by simp) (by simp only [ents, List.cons_append, List.nil_append, List.append_nil] <;> rfl) (fun hk ha hc => ?_)
  with_reducible repeat (first | refine n1 ?_ | refine n2 ?_ | refine n3 ?_ | refine n4 ?_ | refine n5 ?_ | refine n6 ?_ | refine n7 rfl ?_ | refine W_seq ?_ | refine W_block ?_ | refine W_skip ?_ | refine W_exit ?_ | refine W_ret ?_)
  refine W_go (by simp only [ev0, ev1, ev2, ev3, ev4, Nat.reduceLT, Nat.reduceLeDiff, Nat.reduceEqDiff, Nat.reduceAdd, Nat.reduceMul, Nat.reduceBEq, reduceCtorEq] <;> rfl) (Nat.le_of_ble_eq_true rfl) ?_
  refine WL_end ?_
  with_reducible repeat (first | refine n1 ?_ | refine n2 ?_ | refine n3 ?_ | refine n4 ?_ | refine n5 ?_ | refine n6 ?_ | refine n7 rfl ?_ | refine W_seq ?_ | refine W_block ?_ | refine W_skip ?_ | refine W_exit ?_ | refine W_ret ?_)
  refine W_go (by simp only [ev0, ev1, ev2, ev3, ev4, Nat.reduceLT, Nat.reduceLeDiff, Nat.reduceEqDiff, Nat.reduceAdd, Nat.reduceMul, Nat.reduceBEq, reduceCtorEq] <;> rfl) (Nat.le_of_ble_eq_true rfl) ?_
  refine WL_pure ((f36_ok p fv xs h hlen hf).frame hk (by simp) ha []) rfl (.inl rfl) (by simp only [ev0, ev1, ev2, ev3, ev4, Nat.reduceLT, Nat.reduceLeDiff, Nat.reduceEqDiff, Nat.reduceAdd, Nat.reduceMul, Nat.reduceBEq, reduceCtorEq] <;> rfl) (by simp only [ev0, ev1, ev2, ev3, ev4, Nat.reduceLT, Nat.reduceLeDiff, Nat.reduceEqDiff, Nat.reduceAdd, Nat.reduceMul, Nat.reduceBEq, reduceCtorEq] <;> rfl) rfl (by simp only [ev0, ev1, ev2, ev3, ev4, Nat.reduceLT, Nat.reduceLeDiff, Nat.reduceEqDiff, Nat.reduceAdd, Nat.reduceMul, Nat.reduceBEq, reduceCtorEq] <;> rfl) ?_
  refine WL_go (by simp only [ev0, ev1, ev2, ev3, ev4, Nat.reduceLT, Nat.reduceLeDiff, Nat.reduceEqDiff, Nat.reduceAdd, Nat.reduceMul, Nat.reduceBEq, reduceCtorEq] <;> rfl) (Nat.le_of_ble_eq_true rfl) ?_
  refine WL_endk (ks := [4]) (by simp only [ev0, ev4, Nat.reduceEqDiff] <;> rfl) ?_
  with_reducible repeat (first | refine n1 ?_ | refine n2 ?_ | refine n3 ?_ | refine n4 ?_ | refine n5 ?_ | refine n6 ?_ | refine n7 rfl ?_ | refine W_seq ?_ | refine W_block ?_ | refine W_skip ?_ | refine W_exit ?_ | refine W_ret ?_)
  refine Fin_pure [] _ (by first | exact .inl rfl | exact .inr rfl) rfl (by simp only [Tryd.results16, vres, vresL, vres1, one_, vload_eq, Option.map_some, ev0, ev3, ev4, Nat.reduceEqDiff, Nat.reduceAdd, Nat.reduceLeDiff] <;> rfl) rfl (by simp only [one_, rf_c, rf_any, rf_sl, rf_ptr, rf_fn, rf_agg, rf_tup, rf, List.map_cons, List.map_nil] <;> rfl) hk (by simp) ?_
  exact ⟨by rw [← idx_ge p xs 0], rfl⟩

theorem f45_ok {G} (p : Int → Bool) (fv : Val) (xs : List Int) (h : Hp) (hlen : xs.length < 4611686018427387904)
    (hf : ∀ x, x ∈ xs → VPure Tryd.prog G fv [.c (.int .i64 x)] h (.c (.bool (p x)))) : VPure Tryd.prog G (.fn 45 []) [.sl 1 (xs.map iv), fv] h (.c (.int .i64 (idx p xs 0))) := by
  refine VCall_fn' (tdOf_ok _) Tryd.func45 rfl (by rfl) 19 rfl (by simp) (by simp only [ents, List.cons_append, List.nil_append, List.append_nil] <;> rfl) (fun hk ha hc => ?_)
  with_reducible repeat (first | refine n1 ?_ | refine n2 ?_ | refine n3 ?_ | refine n4 ?_ | refine n5 ?_ | refine n6 ?_ | refine n7 rfl ?_ | refine W_seq ?_ | refine W_block ?_ | refine W_skip ?_ | refine W_exit ?_ | refine W_ret ?_)
  refine W_go (by simp only [ev0, ev1, ev2, ev3, ev4, Nat.reduceLT, Nat.reduceLeDiff, Nat.reduceEqDiff, Nat.reduceAdd, Nat.reduceMul, Nat.reduceBEq, reduceCtorEq, len26, ix26, ld3] <;> rfl) (Nat.le_of_ble_eq_true rfl) ?_
  refine WL_end ?_
  with_reducible repeat (first | refine n1 ?_ | refine n2 ?_ | refine n3 ?_ | refine n4 ?_ | refine n5 ?_ | refine n6 ?_ | refine n7 rfl ?_ | refine W_seq ?_ | refine W_block ?_ | refine W_skip ?_ | refine W_exit ?_ | refine W_ret ?_)
  refine W_go (by simp only [ev0, ev1, ev2, ev3, ev4, Nat.reduceLT, Nat.reduceLeDiff, Nat.reduceEqDiff, Nat.reduceAdd, Nat.reduceMul, Nat.reduceBEq, reduceCtorEq, len26, ix26, ld3] <;> rfl) (Nat.le_of_ble_eq_true rfl) ?_
  refine WL_endk (ks := [0, 1, 7, 8]) (by simp only [ev0, ev4, Nat.reduceEqDiff] <;> rfl) ?_
  with_reducible repeat (first | refine n1 ?_ | refine n2 ?_ | refine n3 ?_ | refine n4 ?_ | refine n5 ?_ | refine n6 ?_ | refine n7 rfl ?_ | refine W_seq ?_ | refine W_block ?_ | refine W_skip ?_ | refine W_exit ?_ | refine W_ret ?_)
  refine W_loopS (fun k : Nat => ⟨19, [(0, .sl 1 (xs.map iv)), (1, fv), (7, .c (.int .i64 xs.length)), (8, .c (.int .i64 k))], h ++ [], []⟩) (fun k => k ≤ xs.length ∧ idx p xs 0 = idx p (xs.drop k) k) (fun k => xs.length - k) 0 (by simp) rfl (fun k hI => ?_)
  with_reducible repeat (first | refine n1 ?_ | refine n2 ?_ | refine n3 ?_ | refine n4 ?_ | refine n5 ?_ | refine n6 ?_ | refine n7 rfl ?_ | refine W_seq ?_ | refine W_block ?_ | refine W_skip ?_ | refine W_exit ?_ | refine W_ret ?_)
  refine W_go (by simp only [ev0, ev1, ev2, ev3, ev4, Nat.reduceLT, Nat.reduceLeDiff, Nat.reduceEqDiff, Nat.reduceAdd, Nat.reduceMul, Nat.reduceBEq, reduceCtorEq, len26, ix26, ld3] <;> rfl) (Nat.le_of_ble_eq_true rfl) ?_
  refine WL_end ?_
  with_reducible repeat (first | refine n1 ?_ | refine n2 ?_ | refine n3 ?_ | refine n4 ?_ | refine n5 ?_ | refine n6 ?_ | refine n7 rfl ?_ | refine W_seq ?_ | refine W_block ?_ | refine W_skip ?_ | refine W_exit ?_ | refine W_ret ?_)
  refine W_cond rfl (fun hb => ?_) (fun hb => ?_)
  · with_reducible repeat (first | refine n1 ?_ | refine n2 ?_ | refine n3 ?_ | refine n4 ?_ | refine n5 ?_ | refine n6 ?_ | refine n7 rfl ?_ | refine W_seq ?_ | refine W_block ?_ | refine W_skip ?_ | refine W_exit ?_ | refine W_ret ?_)
    refine W_go (by simp only [ev0, ev1, ev2, ev3, ev4, Nat.reduceLT, Nat.reduceLeDiff, Nat.reduceEqDiff, Nat.reduceAdd, Nat.reduceMul, Nat.reduceBEq, reduceCtorEq, len26, ix26, ld3] <;> rfl) (Nat.le_of_ble_eq_true rfl) ?_
    refine WL_end ?_
    with_reducible repeat (first | refine n1 ?_ | refine n2 ?_ | refine n3 ?_ | refine n4 ?_ | refine n5 ?_ | refine n6 ?_ | refine n7 rfl ?_ | refine W_seq ?_ | refine W_block ?_ | refine W_skip ?_ | refine W_exit ?_ | refine W_ret ?_)
    have hlt : k < xs.length := by simpa using hb
    have hx := map_get (f := iv) hlt
    refine W_go (by simp only [ev0, ev1, ev2, ev3, ev4, Nat.reduceLT, Nat.reduceLeDiff, Nat.reduceEqDiff, Nat.reduceAdd, Nat.reduceMul, Nat.reduceBEq, reduceCtorEq, len26, ix26, ld3, hx, iv] <;> rfl) (Nat.le_of_ble_eq_true rfl) ?_
    have hfx := (hf xs[k] (List.getElem_mem hlt)).frame hk (ha _ (by simp)) (by simp [cellV]) []
    refine WL_pure (hfx) rfl (.inl rfl) (by simp only [ev0, ev1, ev2, ev3, ev4, Nat.reduceLT, Nat.reduceLeDiff, Nat.reduceEqDiff, Nat.reduceAdd, Nat.reduceMul, Nat.reduceBEq, reduceCtorEq, len26, ix26, ld3] <;> rfl) (by simp only [ev0, ev1, ev2, ev3, ev4, Nat.reduceLT, Nat.reduceLeDiff, Nat.reduceEqDiff, Nat.reduceAdd, Nat.reduceMul, Nat.reduceBEq, reduceCtorEq, len26, ix26, ld3] <;> rfl) rfl (by simp only [ev0, ev1, ev2, ev3, ev4, Nat.reduceLT, Nat.reduceLeDiff, Nat.reduceEqDiff, Nat.reduceAdd, Nat.reduceMul, Nat.reduceBEq, reduceCtorEq, len26, ix26, ld3] <;> rfl) ?_
    refine WL_end ?_
    with_reducible repeat (first | refine n1 ?_ | refine n2 ?_ | refine n3 ?_ | refine n4 ?_ | refine n5 ?_ | refine n6 ?_ | refine n7 rfl ?_ | refine W_seq ?_ | refine W_block ?_ | refine W_skip ?_ | refine W_exit ?_ | refine W_ret ?_)
    refine W_cond rfl (fun hp => ?_) (fun hp => ?_)
    · with_reducible repeat (first | refine n1 ?_ | refine n2 ?_ | refine n3 ?_ | refine n4 ?_ | refine n5 ?_ | refine n6 ?_ | refine n7 rfl ?_ | refine W_seq ?_ | refine W_block ?_ | refine W_skip ?_ | refine W_exit ?_ | refine W_ret ?_)
      refine W_go (by simp only [ev0, ev1, ev2, ev3, ev4, Nat.reduceLT, Nat.reduceLeDiff, Nat.reduceEqDiff, Nat.reduceAdd, Nat.reduceMul, Nat.reduceBEq, reduceCtorEq, len26, ix26, ld3] <;> rfl) (Nat.le_of_ble_eq_true rfl) ?_
      refine WL_endk (ks := [4]) (by simp only [ev0, ev4, Nat.reduceEqDiff] <;> rfl) ?_
      with_reducible repeat (first | refine n1 ?_ | refine n2 ?_ | refine n3 ?_ | refine n4 ?_ | refine n5 ?_ | refine n6 ?_ | refine n7 rfl ?_ | refine W_seq ?_ | refine W_block ?_ | refine W_skip ?_ | refine W_exit ?_ | refine W_ret ?_)
      refine Fin_pure [] _ (by first | exact .inl rfl | exact .inr rfl) rfl (by simp only [Tryd.results45, vres, vresL, vres1, one_, vload_eq, Option.map_some, ev0, ev3, ev4, Nat.reduceEqDiff, Nat.reduceAdd, Nat.reduceLeDiff] <;> rfl) rfl (by simp only [one_, rf_c, rf_any, rf_sl, rf_ptr, rf_fn, rf_agg, rf_tup, rf, List.map_cons, List.map_nil] <;> rfl) hk (by simp) ?_
      exact ⟨by rw [hI.2, idx_drop p hlt, if_pos hp], rfl⟩
    · with_reducible repeat (first | refine n1 ?_ | refine n2 ?_ | refine n3 ?_ | refine n4 ?_ | refine n5 ?_ | refine n6 ?_ | refine n7 rfl ?_ | refine W_seq ?_ | refine W_block ?_ | refine W_skip ?_ | refine W_exit ?_ | refine W_ret ?_)
      refine W_go (by simp only [ev0, ev1, ev2, ev3, ev4, Nat.reduceLT, Nat.reduceLeDiff, Nat.reduceEqDiff, Nat.reduceAdd, Nat.reduceMul, Nat.reduceBEq, reduceCtorEq, len26, ix26, ld3] <;> rfl) (Nat.le_of_ble_eq_true rfl) ?_
      refine WL_endk (ks := [0, 1, 7, 8]) (by simp only [ev0, ev4, Nat.reduceEqDiff] <;> rfl) ?_
      with_reducible repeat (first | refine n1 ?_ | refine n2 ?_ | refine n3 ?_ | refine n4 ?_ | refine n5 ?_ | refine n6 ?_ | refine n7 rfl ?_ | refine W_seq ?_ | refine W_block ?_ | refine W_skip ?_ | refine W_exit ?_ | refine W_ret ?_)
      exact ⟨k + 1, by rw [wrap64 (by omega) (by omega)]; rfl, ⟨by omega, by rw [hI.2, idx_drop p hlt, if_neg (by rw [hp]; simp)]⟩, by omega⟩
  · with_reducible repeat (first | refine n1 ?_ | refine n2 ?_ | refine n3 ?_ | refine n4 ?_ | refine n5 ?_ | refine n6 ?_ | refine n7 rfl ?_ | refine W_seq ?_ | refine W_block ?_ | refine W_skip ?_ | refine W_exit ?_ | refine W_ret ?_)
    refine W_go (by simp only [ev0, ev1, ev2, ev3, ev4, Nat.reduceLT, Nat.reduceLeDiff, Nat.reduceEqDiff, Nat.reduceAdd, Nat.reduceMul, Nat.reduceBEq, reduceCtorEq, len26, ix26, ld3] <;> rfl) (Nat.le_of_ble_eq_true rfl) ?_
    refine WL_endk (ks := [4]) (by simp only [ev0, ev4, Nat.reduceEqDiff] <;> rfl) ?_
    with_reducible repeat (first | refine n1 ?_ | refine n2 ?_ | refine n3 ?_ | refine n4 ?_ | refine n5 ?_ | refine n6 ?_ | refine n7 rfl ?_ | refine W_seq ?_ | refine W_block ?_ | refine W_skip ?_ | refine W_exit ?_ | refine W_ret ?_)
    have hge : xs.length ≤ k := by simpa using hb
    refine Fin_pure [] _ (by first | exact .inl rfl | exact .inr rfl) rfl (by simp only [Tryd.results45, vres, vresL, vres1, one_, vload_eq, Option.map_some, ev0, ev3, ev4, Nat.reduceEqDiff, Nat.reduceAdd, Nat.reduceLeDiff] <;> rfl) rfl (by simp only [one_, rf_c, rf_any, rf_sl, rf_ptr, rf_fn, rf_agg, rf_tup, rf, List.map_cons, List.map_nil] <;> rfl) hk (by simp) ?_
    exact ⟨by rw [hI.2, List.drop_of_length_le hge]; rfl, rfl⟩

theorem f34_ok {G} (p : Int → Bool) (fv : Val) (xs : List Int) (h : Hp) (hlen : xs.length < 4611686018427387904)
    (hf : ∀ x, x ∈ xs → VPure Tryd.prog G fv [.c (.int .i64 x)] h (.c (.bool (p x)))) : VPure Tryd.prog G (.fn 34 []) [.sl 1 (xs.map iv), fv] h (.c (.bool (xs.any p))) := by
  refine VCall_fn' (tdOf_ok _) Tryd.func34 rfl (by rfl) 9 rfl (by simp) (by simp only [ents, List.cons_append, List.nil_append, List.append_nil] <;> rfl) (fun hk ha hc => ?_)
  with_reducible repeat (first | refine n1 ?_ | refine n2 ?_ | refine n3 ?_ | refine n4 ?_ | refine n5 ?_ | refine n6 ?_ | refine n7 rfl ?_ | refine W_seq ?_ | refine W_block ?_ | refine W_skip ?_ | refine W_exit ?_ | refine W_ret ?_)
  refine W_go (by simp only [ev0, ev1, ev2, ev3, ev4, Nat.reduceLT, Nat.reduceLeDiff, Nat.reduceEqDiff, Nat.reduceAdd, Nat.reduceMul, Nat.reduceBEq, reduceCtorEq] <;> rfl) (Nat.le_of_ble_eq_true rfl) ?_
  refine WL_end ?_
  with_reducible repeat (first | refine n1 ?_ | refine n2 ?_ | refine n3 ?_ | refine n4 ?_ | refine n5 ?_ | refine n6 ?_ | refine n7 rfl ?_ | refine W_seq ?_ | refine W_block ?_ | refine W_skip ?_ | refine W_exit ?_ | refine W_ret ?_)
  refine W_go (by simp only [ev0, ev1, ev2, ev3, ev4, Nat.reduceLT, Nat.reduceLeDiff, Nat.reduceEqDiff, Nat.reduceAdd, Nat.reduceMul, Nat.reduceBEq, reduceCtorEq] <;> rfl) (Nat.le_of_ble_eq_true rfl) ?_
  refine WL_pure ((f45_ok p fv xs h hlen hf).frame hk (by simp) ha []) rfl (.inl rfl) (by simp only [ev0, ev1, ev2, ev3, ev4, Nat.reduceLT, Nat.reduceLeDiff, Nat.reduceEqDiff, Nat.reduceAdd, Nat.reduceMul, Nat.reduceBEq, reduceCtorEq] <;> rfl) (by simp only [ev0, ev1, ev2, ev3, ev4, Nat.reduceLT, Nat.reduceLeDiff, Nat.reduceEqDiff, Nat.reduceAdd, Nat.reduceMul, Nat.reduceBEq, reduceCtorEq] <;> rfl) rfl (by simp only [ev0, ev1, ev2, ev3, ev4, Nat.reduceLT, Nat.reduceLeDiff, Nat.reduceEqDiff, Nat.reduceAdd, Nat.reduceMul, Nat.reduceBEq, reduceCtorEq] <;> rfl) ?_
  refine WL_go (by simp only [ev0, ev1, ev2, ev3, ev4, Nat.reduceLT, Nat.reduceLeDiff, Nat.reduceEqDiff, Nat.reduceAdd, Nat.reduceMul, Nat.reduceBEq, reduceCtorEq] <;> rfl) (Nat.le_of_ble_eq_true rfl) ?_
  refine WL_endk (ks := [4]) (by simp only [ev0, ev4, Nat.reduceEqDiff] <;> rfl) ?_
  with_reducible repeat (first | refine n1 ?_ | refine n2 ?_ | refine n3 ?_ | refine n4 ?_ | refine n5 ?_ | refine n6 ?_ | refine n7 rfl ?_ | refine W_seq ?_ | refine W_block ?_ | refine W_skip ?_ | refine W_exit ?_ | refine W_ret ?_)
  refine Fin_pure [] _ (by first | exact .inl rfl | exact .inr rfl) rfl (by simp only [Tryd.results34, vres, vresL, vres1, one_, vload_eq, Option.map_some, ev0, ev3, ev4, Nat.reduceEqDiff, Nat.reduceAdd, Nat.reduceLeDiff] <;> rfl) rfl (by simp only [one_, rf_c, rf_any, rf_sl, rf_ptr, rf_fn, rf_agg, rf_tup, rf, List.map_cons, List.map_nil] <;> rfl) hk (by simp) ?_
  exact ⟨by rw [← idx_ge p xs 0], rfl⟩
end Go.Vm
/- Contracts: the reference's searches. -/
namespace Go.Vm
open Go Go.RowKit Go.Proofs
set_option linter.unusedSimpArgs false
set_option linter.unusedVariables false

def inB (n lo hi : Int) : Bool := decide (lo ≤ n) && decide (n ≤ hi)
theorem any_drop {α : Type} (p : α → Bool) {xs : List α} {k : Nat} (h : k < xs.length) : (xs.drop k).any p = (p xs[k] || (xs.drop (k + 1)).any p) := by
  rw [List.drop_eq_getElem_cons h]; rfl

theorem two_ (a b : Bool) : (a = false ∧ True) ∨ (a = true ∧ b = false) ∨ (a = true ∧ b = true) := by cases a <;> cases b <;> simp
theorem three_ (a b c : Bool) : (a = false ∧ True ∧ True) ∨ (a = true ∧ b = true ∧ True) ∨ (a = true ∧ b = false ∧ c = true) ∨ (a = true ∧ b = false ∧ c = false) := by cases a <;> cases b <;> cases c <;> simp
theorem eq_of_beqF {a b : Int} (h : (a == b) = false) : a ≠ b := by simpa using h
def busyN (slot a : Int) (c : Cell) : Bool := c.slot == slot && (c.src == a || c.to == a)


theorem f32_ok {G} (slot off : Int) (xs : List Cell) (h : Hp) (hlen : xs.length < 4611686018427387904) : VPure Tryd.prog G (.fn 32 []) [.sl 5 (xs.map cellV), .c (.int .i64 slot), .c (.int .i64 off)] h (.c (.bool (xs.any (isAt slot off)))) := by
  refine VCall_fn' (tdOf_ok _) Tryd.func32 rfl (by rfl) 30 rfl (by simp) (by simp only [ents, List.cons_append, List.nil_append, List.append_nil] <;> rfl) (fun hk ha hc => ?_)
  with_reducible repeat (first | refine n1 ?_ | refine n2 ?_ | refine n3 ?_ | refine n4 ?_ | refine n5 ?_ | refine n6 ?_ | refine n7 rfl ?_ | refine W_seq ?_ | refine W_block ?_ | refine W_skip ?_ | refine W_exit ?_ | refine W_ret ?_)
  refine W_go (by simp only [ev0, ev1, ev2, ev3, ev4, Nat.reduceLT, Nat.reduceLeDiff, Nat.reduceEqDiff, Nat.reduceAdd, Nat.reduceMul, Nat.reduceBEq, reduceCtorEq, len22, ix22, fa29_0, ld3, fa29_1] <;> rfl) (Nat.le_of_ble_eq_true rfl) ?_
  refine WL_end ?_
  with_reducible repeat (first | refine n1 ?_ | refine n2 ?_ | refine n3 ?_ | refine n4 ?_ | refine n5 ?_ | refine n6 ?_ | refine n7 rfl ?_ | refine W_seq ?_ | refine W_block ?_ | refine W_skip ?_ | refine W_exit ?_ | refine W_ret ?_)
  refine W_go (by simp only [ev0, ev1, ev2, ev3, ev4, Nat.reduceLT, Nat.reduceLeDiff, Nat.reduceEqDiff, Nat.reduceAdd, Nat.reduceMul, Nat.reduceBEq, reduceCtorEq, len22, ix22, fa29_0, ld3, fa29_1] <;> rfl) (Nat.le_of_ble_eq_true rfl) ?_
  refine WL_endk (ks := [0, 1, 2, 7]) (by simp only [ev0, ev4, Nat.reduceEqDiff] <;> rfl) ?_
  with_reducible repeat (first | refine n1 ?_ | refine n2 ?_ | refine n3 ?_ | refine n4 ?_ | refine n5 ?_ | refine n6 ?_ | refine n7 rfl ?_ | refine W_seq ?_ | refine W_block ?_ | refine W_skip ?_ | refine W_exit ?_ | refine W_ret ?_)
  refine W_loopS (fun k : Nat => ⟨30, [(0, .sl 5 (xs.map cellV)), (1, .c (.int .i64 slot)), (2, .c (.int .i64 off)), (7, .c (.int .i64 k))], h ++ [], []⟩) (fun k => k ≤ xs.length ∧ xs.any (isAt slot off) = (xs.drop k).any (isAt slot off)) (fun k => xs.length - k) 0 (by simp) rfl (fun k hI => ?_)
  with_reducible repeat (first | refine n1 ?_ | refine n2 ?_ | refine n3 ?_ | refine n4 ?_ | refine n5 ?_ | refine n6 ?_ | refine n7 rfl ?_ | refine W_seq ?_ | refine W_block ?_ | refine W_skip ?_ | refine W_exit ?_ | refine W_ret ?_)
  refine W_go (by simp only [ev0, ev1, ev2, ev3, ev4, Nat.reduceLT, Nat.reduceLeDiff, Nat.reduceEqDiff, Nat.reduceAdd, Nat.reduceMul, Nat.reduceBEq, reduceCtorEq, len22, ix22, fa29_0, ld3, fa29_1] <;> rfl) (Nat.le_of_ble_eq_true rfl) ?_
  refine WL_end ?_
  with_reducible repeat (first | refine n1 ?_ | refine n2 ?_ | refine n3 ?_ | refine n4 ?_ | refine n5 ?_ | refine n6 ?_ | refine n7 rfl ?_ | refine W_seq ?_ | refine W_block ?_ | refine W_skip ?_ | refine W_exit ?_ | refine W_ret ?_)
  refine W_cond rfl (fun hb => ?_) (fun hb => ?_)
  · with_reducible repeat (first | refine n1 ?_ | refine n2 ?_ | refine n3 ?_ | refine n4 ?_ | refine n5 ?_ | refine n6 ?_ | refine n7 rfl ?_ | refine W_seq ?_ | refine W_block ?_ | refine W_skip ?_ | refine W_exit ?_ | refine W_ret ?_)
    have hlt : k < xs.length := by simpa using hb
    have hx := map_get (f := cellV) hlt
    obtain ⟨h1, h2⟩ | ⟨h1, h2⟩ | ⟨h1, h2⟩ := two_ (xs[k].slot == slot) (xs[k].offset == off)
    · refine W_go (by simp only [ev0, ev1, ev2, ev3, ev4, Nat.reduceLT, Nat.reduceLeDiff, Nat.reduceEqDiff, Nat.reduceAdd, Nat.reduceMul, Nat.reduceBEq, reduceCtorEq, len22, ix22, fa29_0, ld3, fa29_1, hx, cellV, h1] <;> rfl) (Nat.le_of_ble_eq_true rfl) ?_
      refine WL_endk (ks := [0, 1, 2, 7, 29]) (by simp only [ev0, ev4, Nat.reduceEqDiff] <;> rfl) ?_
      with_reducible repeat (first | refine n1 ?_ | refine n2 ?_ | refine n3 ?_ | refine n4 ?_ | refine n5 ?_ | refine n6 ?_ | refine n7 rfl ?_ | refine W_seq ?_ | refine W_block ?_ | refine W_skip ?_ | refine W_exit ?_ | refine W_ret ?_)
      refine W_false rfl ?_
      with_reducible repeat (first | refine n1 ?_ | refine n2 ?_ | refine n3 ?_ | refine n4 ?_ | refine n5 ?_ | refine n6 ?_ | refine n7 rfl ?_ | refine W_seq ?_ | refine W_block ?_ | refine W_skip ?_ | refine W_exit ?_ | refine W_ret ?_)
      refine W_go (by simp only [ev0, ev1, ev2, ev3, ev4, Nat.reduceLT, Nat.reduceLeDiff, Nat.reduceEqDiff, Nat.reduceAdd, Nat.reduceMul, Nat.reduceBEq, reduceCtorEq, len22, ix22, fa29_0, ld3, fa29_1] <;> rfl) (Nat.le_of_ble_eq_true rfl) ?_
      refine WL_endk (ks := [0, 1, 2, 7]) (by simp only [ev0, ev4, Nat.reduceEqDiff] <;> rfl) ?_
      with_reducible repeat (first | refine n1 ?_ | refine n2 ?_ | refine n3 ?_ | refine n4 ?_ | refine n5 ?_ | refine n6 ?_ | refine n7 rfl ?_ | refine W_seq ?_ | refine W_block ?_ | refine W_skip ?_ | refine W_exit ?_ | refine W_ret ?_)
      exact ⟨k + 1, by rw [wrap64 (by omega) (by omega)]; rfl, ⟨by omega, by rw [hI.2, any_drop _ hlt]; simp [isAt, h1]⟩, by omega⟩
    · refine W_go (by simp only [ev0, ev1, ev2, ev3, ev4, Nat.reduceLT, Nat.reduceLeDiff, Nat.reduceEqDiff, Nat.reduceAdd, Nat.reduceMul, Nat.reduceBEq, reduceCtorEq, len22, ix22, fa29_0, ld3, fa29_1, hx, cellV, h1, h2] <;> rfl) (Nat.le_of_ble_eq_true rfl) ?_
      refine WL_endk (ks := [0, 1, 2, 7, 29]) (by simp only [ev0, ev4, Nat.reduceEqDiff] <;> rfl) ?_
      with_reducible repeat (first | refine n1 ?_ | refine n2 ?_ | refine n3 ?_ | refine n4 ?_ | refine n5 ?_ | refine n6 ?_ | refine n7 rfl ?_ | refine W_seq ?_ | refine W_block ?_ | refine W_skip ?_ | refine W_exit ?_ | refine W_ret ?_)
      refine W_false rfl ?_
      with_reducible repeat (first | refine n1 ?_ | refine n2 ?_ | refine n3 ?_ | refine n4 ?_ | refine n5 ?_ | refine n6 ?_ | refine n7 rfl ?_ | refine W_seq ?_ | refine W_block ?_ | refine W_skip ?_ | refine W_exit ?_ | refine W_ret ?_)
      refine W_go (by simp only [ev0, ev1, ev2, ev3, ev4, Nat.reduceLT, Nat.reduceLeDiff, Nat.reduceEqDiff, Nat.reduceAdd, Nat.reduceMul, Nat.reduceBEq, reduceCtorEq, len22, ix22, fa29_0, ld3, fa29_1] <;> rfl) (Nat.le_of_ble_eq_true rfl) ?_
      refine WL_endk (ks := [0, 1, 2, 7]) (by simp only [ev0, ev4, Nat.reduceEqDiff] <;> rfl) ?_
      with_reducible repeat (first | refine n1 ?_ | refine n2 ?_ | refine n3 ?_ | refine n4 ?_ | refine n5 ?_ | refine n6 ?_ | refine n7 rfl ?_ | refine W_seq ?_ | refine W_block ?_ | refine W_skip ?_ | refine W_exit ?_ | refine W_ret ?_)
      exact ⟨k + 1, by rw [wrap64 (by omega) (by omega)]; rfl, ⟨by omega, by rw [hI.2, any_drop _ hlt]; simp [isAt, h1, h2]⟩, by omega⟩
    · refine W_go (by simp only [ev0, ev1, ev2, ev3, ev4, Nat.reduceLT, Nat.reduceLeDiff, Nat.reduceEqDiff, Nat.reduceAdd, Nat.reduceMul, Nat.reduceBEq, reduceCtorEq, len22, ix22, fa29_0, ld3, fa29_1, hx, cellV, h1, h2] <;> rfl) (Nat.le_of_ble_eq_true rfl) ?_
      refine WL_endk (ks := [0, 1, 2, 7, 29]) (by simp only [ev0, ev4, Nat.reduceEqDiff] <;> rfl) ?_
      with_reducible repeat (first | refine n1 ?_ | refine n2 ?_ | refine n3 ?_ | refine n4 ?_ | refine n5 ?_ | refine n6 ?_ | refine n7 rfl ?_ | refine W_seq ?_ | refine W_block ?_ | refine W_skip ?_ | refine W_exit ?_ | refine W_ret ?_)
      refine W_true rfl ?_
      with_reducible repeat (first | refine n1 ?_ | refine n2 ?_ | refine n3 ?_ | refine n4 ?_ | refine n5 ?_ | refine n6 ?_ | refine n7 rfl ?_ | refine W_seq ?_ | refine W_block ?_ | refine W_skip ?_ | refine W_exit ?_ | refine W_ret ?_)
      refine W_go (by simp only [ev0, ev1, ev2, ev3, ev4, Nat.reduceLT, Nat.reduceLeDiff, Nat.reduceEqDiff, Nat.reduceAdd, Nat.reduceMul, Nat.reduceBEq, reduceCtorEq, len22, ix22, fa29_0, ld3, fa29_1] <;> rfl) (Nat.le_of_ble_eq_true rfl) ?_
      refine WL_endk (ks := [6]) (by simp only [ev0, ev4, Nat.reduceEqDiff] <;> rfl) ?_
      with_reducible repeat (first | refine n1 ?_ | refine n2 ?_ | refine n3 ?_ | refine n4 ?_ | refine n5 ?_ | refine n6 ?_ | refine n7 rfl ?_ | refine W_seq ?_ | refine W_block ?_ | refine W_skip ?_ | refine W_exit ?_ | refine W_ret ?_)
      refine Fin_pure [] _ (by first | exact .inl rfl | exact .inr rfl) rfl (by simp only [Tryd.results32, vres, vresL, vres1, one_, vload_eq, Option.map_some, ev0, ev3, ev4, Nat.reduceEqDiff, Nat.reduceAdd, Nat.reduceLeDiff] <;> rfl) rfl (by simp only [one_, rf_c, rf_any, rf_sl, rf_ptr, rf_fn, rf_agg, rf_tup, rf, List.map_cons, List.map_nil] <;> rfl) hk (by simp) ?_
      exact ⟨by rw [hI.2, any_drop _ hlt]; simp [isAt, h1, h2], rfl⟩
  · with_reducible repeat (first | refine n1 ?_ | refine n2 ?_ | refine n3 ?_ | refine n4 ?_ | refine n5 ?_ | refine n6 ?_ | refine n7 rfl ?_ | refine W_seq ?_ | refine W_block ?_ | refine W_skip ?_ | refine W_exit ?_ | refine W_ret ?_)
    refine W_go (by simp only [ev0, ev1, ev2, ev3, ev4, Nat.reduceLT, Nat.reduceLeDiff, Nat.reduceEqDiff, Nat.reduceAdd, Nat.reduceMul, Nat.reduceBEq, reduceCtorEq, len22, ix22, fa29_0, ld3, fa29_1] <;> rfl) (Nat.le_of_ble_eq_true rfl) ?_
    refine WL_endk (ks := [6]) (by simp only [ev0, ev4, Nat.reduceEqDiff] <;> rfl) ?_
    with_reducible repeat (first | refine n1 ?_ | refine n2 ?_ | refine n3 ?_ | refine n4 ?_ | refine n5 ?_ | refine n6 ?_ | refine n7 rfl ?_ | refine W_seq ?_ | refine W_block ?_ | refine W_skip ?_ | refine W_exit ?_ | refine W_ret ?_)
    refine Fin_pure [] _ (by first | exact .inl rfl | exact .inr rfl) rfl (by simp only [Tryd.results32, vres, vresL, vres1, one_, vload_eq, Option.map_some, ev0, ev3, ev4, Nat.reduceEqDiff, Nat.reduceAdd, Nat.reduceLeDiff] <;> rfl) rfl (by simp only [one_, rf_c, rf_any, rf_sl, rf_ptr, rf_fn, rf_agg, rf_tup, rf, List.map_cons, List.map_nil] <;> rfl) hk (by simp) ?_
    have hge : xs.length ≤ k := by simpa using hb
    exact ⟨by rw [hI.2, List.drop_of_length_le hge]; rfl, rfl⟩

theorem f31_ok {G} (slot a : Int) (xs : List Cell) (h : Hp) (hlen : xs.length < 4611686018427387904) : VPure Tryd.prog G (.fn 31 []) [.sl 5 (xs.map cellV), .c (.int .i64 slot), .c (.int .i64 a)] h (.c (.bool (xs.any (busyN slot a)))) := by
  refine VCall_fn' (tdOf_ok _) Tryd.func31 rfl (by rfl) 39 rfl (by simp) (by simp only [ents, List.cons_append, List.nil_append, List.append_nil] <;> rfl) (fun hk ha hc => ?_)
  with_reducible repeat (first | refine n1 ?_ | refine n2 ?_ | refine n3 ?_ | refine n4 ?_ | refine n5 ?_ | refine n6 ?_ | refine n7 rfl ?_ | refine W_seq ?_ | refine W_block ?_ | refine W_skip ?_ | refine W_exit ?_ | refine W_ret ?_)
  refine W_go (by simp only [ev0, ev1, ev2, ev3, ev4, Nat.reduceLT, Nat.reduceLeDiff, Nat.reduceEqDiff, Nat.reduceAdd, Nat.reduceMul, Nat.reduceBEq, reduceCtorEq, len22, ix22, fa29_0, ld3, fa29_2, fa29_3] <;> rfl) (Nat.le_of_ble_eq_true rfl) ?_
  refine WL_end ?_
  with_reducible repeat (first | refine n1 ?_ | refine n2 ?_ | refine n3 ?_ | refine n4 ?_ | refine n5 ?_ | refine n6 ?_ | refine n7 rfl ?_ | refine W_seq ?_ | refine W_block ?_ | refine W_skip ?_ | refine W_exit ?_ | refine W_ret ?_)
  refine W_go (by simp only [ev0, ev1, ev2, ev3, ev4, Nat.reduceLT, Nat.reduceLeDiff, Nat.reduceEqDiff, Nat.reduceAdd, Nat.reduceMul, Nat.reduceBEq, reduceCtorEq, len22, ix22, fa29_0, ld3, fa29_2, fa29_3] <;> rfl) (Nat.le_of_ble_eq_true rfl) ?_
  refine WL_endk (ks := [0, 1, 2, 7]) (by simp only [ev0, ev4, Nat.reduceEqDiff] <;> rfl) ?_
  with_reducible repeat (first | refine n1 ?_ | refine n2 ?_ | refine n3 ?_ | refine n4 ?_ | refine n5 ?_ | refine n6 ?_ | refine n7 rfl ?_ | refine W_seq ?_ | refine W_block ?_ | refine W_skip ?_ | refine W_exit ?_ | refine W_ret ?_)
  refine W_loopS (fun k : Nat => ⟨39, [(0, .sl 5 (xs.map cellV)), (1, .c (.int .i64 slot)), (2, .c (.int .i64 a)), (7, .c (.int .i64 k))], h ++ [], []⟩) (fun k => k ≤ xs.length ∧ xs.any (busyN slot a) = (xs.drop k).any (busyN slot a)) (fun k => xs.length - k) 0 (by simp) rfl (fun k hI => ?_)
  with_reducible repeat (first | refine n1 ?_ | refine n2 ?_ | refine n3 ?_ | refine n4 ?_ | refine n5 ?_ | refine n6 ?_ | refine n7 rfl ?_ | refine W_seq ?_ | refine W_block ?_ | refine W_skip ?_ | refine W_exit ?_ | refine W_ret ?_)
  refine W_go (by simp only [ev0, ev1, ev2, ev3, ev4, Nat.reduceLT, Nat.reduceLeDiff, Nat.reduceEqDiff, Nat.reduceAdd, Nat.reduceMul, Nat.reduceBEq, reduceCtorEq, len22, ix22, fa29_0, ld3, fa29_2, fa29_3] <;> rfl) (Nat.le_of_ble_eq_true rfl) ?_
  refine WL_end ?_
  with_reducible repeat (first | refine n1 ?_ | refine n2 ?_ | refine n3 ?_ | refine n4 ?_ | refine n5 ?_ | refine n6 ?_ | refine n7 rfl ?_ | refine W_seq ?_ | refine W_block ?_ | refine W_skip ?_ | refine W_exit ?_ | refine W_ret ?_)
  refine W_cond rfl (fun hb => ?_) (fun hb => ?_)
  · with_reducible repeat (first | refine n1 ?_ | refine n2 ?_ | refine n3 ?_ | refine n4 ?_ | refine n5 ?_ | refine n6 ?_ | refine n7 rfl ?_ | refine W_seq ?_ | refine W_block ?_ | refine W_skip ?_ | refine W_exit ?_ | refine W_ret ?_)
    have hlt : k < xs.length := by simpa using hb
    have hx := map_get (f := cellV) hlt
    obtain ⟨h1, h2, h3⟩ | ⟨h1, h2, h3⟩ | ⟨h1, h2, h3⟩ | ⟨h1, h2, h3⟩ := three_ (xs[k].slot == slot) (xs[k].src == a) (xs[k].to == a)
    · refine W_go (by simp only [ev0, ev1, ev2, ev3, ev4, Nat.reduceLT, Nat.reduceLeDiff, Nat.reduceEqDiff, Nat.reduceAdd, Nat.reduceMul, Nat.reduceBEq, reduceCtorEq, len22, ix22, fa29_0, ld3, fa29_2, fa29_3, hx, cellV, h1] <;> rfl) (Nat.le_of_ble_eq_true rfl) ?_
      refine WL_endk (ks := [0, 1, 2, 7, 38]) (by simp only [ev0, ev4, Nat.reduceEqDiff] <;> rfl) ?_
      with_reducible repeat (first | refine n1 ?_ | refine n2 ?_ | refine n3 ?_ | refine n4 ?_ | refine n5 ?_ | refine n6 ?_ | refine n7 rfl ?_ | refine W_seq ?_ | refine W_block ?_ | refine W_skip ?_ | refine W_exit ?_ | refine W_ret ?_)
      refine W_false rfl ?_
      with_reducible repeat (first | refine n1 ?_ | refine n2 ?_ | refine n3 ?_ | refine n4 ?_ | refine n5 ?_ | refine n6 ?_ | refine n7 rfl ?_ | refine W_seq ?_ | refine W_block ?_ | refine W_skip ?_ | refine W_exit ?_ | refine W_ret ?_)
      refine W_go (by simp only [ev0, ev1, ev2, ev3, ev4, Nat.reduceLT, Nat.reduceLeDiff, Nat.reduceEqDiff, Nat.reduceAdd, Nat.reduceMul, Nat.reduceBEq, reduceCtorEq, len22, ix22, fa29_0, ld3, fa29_2, fa29_3] <;> rfl) (Nat.le_of_ble_eq_true rfl) ?_
      refine WL_endk (ks := [0, 1, 2, 7]) (by simp only [ev0, ev4, Nat.reduceEqDiff] <;> rfl) ?_
      with_reducible repeat (first | refine n1 ?_ | refine n2 ?_ | refine n3 ?_ | refine n4 ?_ | refine n5 ?_ | refine n6 ?_ | refine n7 rfl ?_ | refine W_seq ?_ | refine W_block ?_ | refine W_skip ?_ | refine W_exit ?_ | refine W_ret ?_)
      exact ⟨k + 1, by rw [wrap64 (by omega) (by omega)]; rfl, ⟨by omega, by rw [hI.2, any_drop _ hlt]; simp [busyN, h1]⟩, by omega⟩
    · refine W_go (by simp only [ev0, ev1, ev2, ev3, ev4, Nat.reduceLT, Nat.reduceLeDiff, Nat.reduceEqDiff, Nat.reduceAdd, Nat.reduceMul, Nat.reduceBEq, reduceCtorEq, len22, ix22, fa29_0, ld3, fa29_2, fa29_3, hx, cellV, h1, h2] <;> rfl) (Nat.le_of_ble_eq_true rfl) ?_
      refine WL_endk (ks := [0, 1, 2, 7, 38]) (by simp only [ev0, ev4, Nat.reduceEqDiff] <;> rfl) ?_
      with_reducible repeat (first | refine n1 ?_ | refine n2 ?_ | refine n3 ?_ | refine n4 ?_ | refine n5 ?_ | refine n6 ?_ | refine n7 rfl ?_ | refine W_seq ?_ | refine W_block ?_ | refine W_skip ?_ | refine W_exit ?_ | refine W_ret ?_)
      refine W_true rfl ?_
      with_reducible repeat (first | refine n1 ?_ | refine n2 ?_ | refine n3 ?_ | refine n4 ?_ | refine n5 ?_ | refine n6 ?_ | refine n7 rfl ?_ | refine W_seq ?_ | refine W_block ?_ | refine W_skip ?_ | refine W_exit ?_ | refine W_ret ?_)
      refine W_go (by simp only [ev0, ev1, ev2, ev3, ev4, Nat.reduceLT, Nat.reduceLeDiff, Nat.reduceEqDiff, Nat.reduceAdd, Nat.reduceMul, Nat.reduceBEq, reduceCtorEq, len22, ix22, fa29_0, ld3, fa29_2, fa29_3] <;> rfl) (Nat.le_of_ble_eq_true rfl) ?_
      refine WL_endk (ks := [6]) (by simp only [ev0, ev4, Nat.reduceEqDiff] <;> rfl) ?_
      with_reducible repeat (first | refine n1 ?_ | refine n2 ?_ | refine n3 ?_ | refine n4 ?_ | refine n5 ?_ | refine n6 ?_ | refine n7 rfl ?_ | refine W_seq ?_ | refine W_block ?_ | refine W_skip ?_ | refine W_exit ?_ | refine W_ret ?_)
      refine Fin_pure [] _ (by first | exact .inl rfl | exact .inr rfl) rfl (by simp only [Tryd.results31, vres, vresL, vres1, one_, vload_eq, Option.map_some, ev0, ev3, ev4, Nat.reduceEqDiff, Nat.reduceAdd, Nat.reduceLeDiff] <;> rfl) rfl (by simp only [one_, rf_c, rf_any, rf_sl, rf_ptr, rf_fn, rf_agg, rf_tup, rf, List.map_cons, List.map_nil] <;> rfl) hk (by simp) ?_
      exact ⟨by rw [hI.2, any_drop _ hlt]; simp [busyN, h1, h2], rfl⟩
    · refine W_go (by simp only [ev0, ev1, ev2, ev3, ev4, Nat.reduceLT, Nat.reduceLeDiff, Nat.reduceEqDiff, Nat.reduceAdd, Nat.reduceMul, Nat.reduceBEq, reduceCtorEq, len22, ix22, fa29_0, ld3, fa29_2, fa29_3, hx, cellV, h1, h2, h3] <;> rfl) (Nat.le_of_ble_eq_true rfl) ?_
      refine WL_endk (ks := [0, 1, 2, 7, 38]) (by simp only [ev0, ev4, Nat.reduceEqDiff] <;> rfl) ?_
      with_reducible repeat (first | refine n1 ?_ | refine n2 ?_ | refine n3 ?_ | refine n4 ?_ | refine n5 ?_ | refine n6 ?_ | refine n7 rfl ?_ | refine W_seq ?_ | refine W_block ?_ | refine W_skip ?_ | refine W_exit ?_ | refine W_ret ?_)
      refine W_true rfl ?_
      with_reducible repeat (first | refine n1 ?_ | refine n2 ?_ | refine n3 ?_ | refine n4 ?_ | refine n5 ?_ | refine n6 ?_ | refine n7 rfl ?_ | refine W_seq ?_ | refine W_block ?_ | refine W_skip ?_ | refine W_exit ?_ | refine W_ret ?_)
      refine W_go (by simp only [ev0, ev1, ev2, ev3, ev4, Nat.reduceLT, Nat.reduceLeDiff, Nat.reduceEqDiff, Nat.reduceAdd, Nat.reduceMul, Nat.reduceBEq, reduceCtorEq, len22, ix22, fa29_0, ld3, fa29_2, fa29_3] <;> rfl) (Nat.le_of_ble_eq_true rfl) ?_
      refine WL_endk (ks := [6]) (by simp only [ev0, ev4, Nat.reduceEqDiff] <;> rfl) ?_
      with_reducible repeat (first | refine n1 ?_ | refine n2 ?_ | refine n3 ?_ | refine n4 ?_ | refine n5 ?_ | refine n6 ?_ | refine n7 rfl ?_ | refine W_seq ?_ | refine W_block ?_ | refine W_skip ?_ | refine W_exit ?_ | refine W_ret ?_)
      refine Fin_pure [] _ (by first | exact .inl rfl | exact .inr rfl) rfl (by simp only [Tryd.results31, vres, vresL, vres1, one_, vload_eq, Option.map_some, ev0, ev3, ev4, Nat.reduceEqDiff, Nat.reduceAdd, Nat.reduceLeDiff] <;> rfl) rfl (by simp only [one_, rf_c, rf_any, rf_sl, rf_ptr, rf_fn, rf_agg, rf_tup, rf, List.map_cons, List.map_nil] <;> rfl) hk (by simp) ?_
      exact ⟨by rw [hI.2, any_drop _ hlt]; simp [busyN, h1, h2, h3], rfl⟩
    · refine W_go (by simp only [ev0, ev1, ev2, ev3, ev4, Nat.reduceLT, Nat.reduceLeDiff, Nat.reduceEqDiff, Nat.reduceAdd, Nat.reduceMul, Nat.reduceBEq, reduceCtorEq, len22, ix22, fa29_0, ld3, fa29_2, fa29_3, hx, cellV, h1, h2, h3] <;> rfl) (Nat.le_of_ble_eq_true rfl) ?_
      refine WL_endk (ks := [0, 1, 2, 7, 38]) (by simp only [ev0, ev4, Nat.reduceEqDiff] <;> rfl) ?_
      with_reducible repeat (first | refine n1 ?_ | refine n2 ?_ | refine n3 ?_ | refine n4 ?_ | refine n5 ?_ | refine n6 ?_ | refine n7 rfl ?_ | refine W_seq ?_ | refine W_block ?_ | refine W_skip ?_ | refine W_exit ?_ | refine W_ret ?_)
      refine W_false rfl ?_
      with_reducible repeat (first | refine n1 ?_ | refine n2 ?_ | refine n3 ?_ | refine n4 ?_ | refine n5 ?_ | refine n6 ?_ | refine n7 rfl ?_ | refine W_seq ?_ | refine W_block ?_ | refine W_skip ?_ | refine W_exit ?_ | refine W_ret ?_)
      refine W_go (by simp only [ev0, ev1, ev2, ev3, ev4, Nat.reduceLT, Nat.reduceLeDiff, Nat.reduceEqDiff, Nat.reduceAdd, Nat.reduceMul, Nat.reduceBEq, reduceCtorEq, len22, ix22, fa29_0, ld3, fa29_2, fa29_3] <;> rfl) (Nat.le_of_ble_eq_true rfl) ?_
      refine WL_endk (ks := [0, 1, 2, 7]) (by simp only [ev0, ev4, Nat.reduceEqDiff] <;> rfl) ?_
      with_reducible repeat (first | refine n1 ?_ | refine n2 ?_ | refine n3 ?_ | refine n4 ?_ | refine n5 ?_ | refine n6 ?_ | refine n7 rfl ?_ | refine W_seq ?_ | refine W_block ?_ | refine W_skip ?_ | refine W_exit ?_ | refine W_ret ?_)
      exact ⟨k + 1, by rw [wrap64 (by omega) (by omega)]; rfl, ⟨by omega, by rw [hI.2, any_drop _ hlt]; simp [busyN, h1, h2, h3]⟩, by omega⟩
  · with_reducible repeat (first | refine n1 ?_ | refine n2 ?_ | refine n3 ?_ | refine n4 ?_ | refine n5 ?_ | refine n6 ?_ | refine n7 rfl ?_ | refine W_seq ?_ | refine W_block ?_ | refine W_skip ?_ | refine W_exit ?_ | refine W_ret ?_)
    refine W_go (by simp only [ev0, ev1, ev2, ev3, ev4, Nat.reduceLT, Nat.reduceLeDiff, Nat.reduceEqDiff, Nat.reduceAdd, Nat.reduceMul, Nat.reduceBEq, reduceCtorEq, len22, ix22, fa29_0, ld3, fa29_2, fa29_3] <;> rfl) (Nat.le_of_ble_eq_true rfl) ?_
    refine WL_endk (ks := [6]) (by simp only [ev0, ev4, Nat.reduceEqDiff] <;> rfl) ?_
    with_reducible repeat (first | refine n1 ?_ | refine n2 ?_ | refine n3 ?_ | refine n4 ?_ | refine n5 ?_ | refine n6 ?_ | refine n7 rfl ?_ | refine W_seq ?_ | refine W_block ?_ | refine W_skip ?_ | refine W_exit ?_ | refine W_ret ?_)
    refine Fin_pure [] _ (by first | exact .inl rfl | exact .inr rfl) rfl (by simp only [Tryd.results31, vres, vresL, vres1, one_, vload_eq, Option.map_some, ev0, ev3, ev4, Nat.reduceEqDiff, Nat.reduceAdd, Nat.reduceLeDiff] <;> rfl) rfl (by simp only [one_, rf_c, rf_any, rf_sl, rf_ptr, rf_fn, rf_agg, rf_tup, rf, List.map_cons, List.map_nil] <;> rfl) hk (by simp) ?_
    have hge : xs.length ≤ k := by simpa using hb
    exact ⟨by rw [hI.2, List.drop_of_length_le hge]; rfl, rfl⟩

theorem f38_ok {G} (xs : List Int) (h : Hp) (hlen : xs.length < 4611686018427387904) : VPure Tryd.prog G (.fn 38 []) [.sl 1 (xs.map iv)] h (.c (.bool (!xs.any (fun m => !inB m 0 65535)))) := by
  refine VCall_fn' (tdOf_ok _) Tryd.func38 rfl (by rfl) 16 rfl (by simp) (by simp only [ents, List.cons_append, List.nil_append, List.append_nil] <;> rfl) (fun hk ha hc => ?_)
  with_reducible repeat (first | refine n1 ?_ | refine n2 ?_ | refine n3 ?_ | refine n4 ?_ | refine n5 ?_ | refine n6 ?_ | refine n7 rfl ?_ | refine W_seq ?_ | refine W_block ?_ | refine W_skip ?_ | refine W_exit ?_ | refine W_ret ?_)
  refine W_go (by simp only [ev0, ev1, ev2, ev3, ev4, Nat.reduceLT, Nat.reduceLeDiff, Nat.reduceEqDiff, Nat.reduceAdd, Nat.reduceMul, Nat.reduceBEq, reduceCtorEq, len26, ix26, ld3] <;> rfl) (Nat.le_of_ble_eq_true rfl) ?_
  refine WL_end ?_
  with_reducible repeat (first | refine n1 ?_ | refine n2 ?_ | refine n3 ?_ | refine n4 ?_ | refine n5 ?_ | refine n6 ?_ | refine n7 rfl ?_ | refine W_seq ?_ | refine W_block ?_ | refine W_skip ?_ | refine W_exit ?_ | refine W_ret ?_)
  refine W_go (by simp only [ev0, ev1, ev2, ev3, ev4, Nat.reduceLT, Nat.reduceLeDiff, Nat.reduceEqDiff, Nat.reduceAdd, Nat.reduceMul, Nat.reduceBEq, reduceCtorEq, len26, ix26, ld3] <;> rfl) (Nat.le_of_ble_eq_true rfl) ?_
  refine WL_endk (ks := [0, 3]) (by simp only [ev0, ev4, Nat.reduceEqDiff] <;> rfl) ?_
  with_reducible repeat (first | refine n1 ?_ | refine n2 ?_ | refine n3 ?_ | refine n4 ?_ | refine n5 ?_ | refine n6 ?_ | refine n7 rfl ?_ | refine W_seq ?_ | refine W_block ?_ | refine W_skip ?_ | refine W_exit ?_ | refine W_ret ?_)
  refine W_loopS (fun k : Nat => ⟨16, [(0, .sl 1 (xs.map iv)), (3, .c (.int .i64 k))], h ++ [], []⟩) (fun k => k ≤ xs.length ∧ xs.any (fun m => !inB m 0 65535) = (xs.drop k).any (fun m => !inB m 0 65535)) (fun k => xs.length - k) 0 (by simp) rfl (fun k hI => ?_)
  with_reducible repeat (first | refine n1 ?_ | refine n2 ?_ | refine n3 ?_ | refine n4 ?_ | refine n5 ?_ | refine n6 ?_ | refine n7 rfl ?_ | refine W_seq ?_ | refine W_block ?_ | refine W_skip ?_ | refine W_exit ?_ | refine W_ret ?_)
  refine W_go (by simp only [ev0, ev1, ev2, ev3, ev4, Nat.reduceLT, Nat.reduceLeDiff, Nat.reduceEqDiff, Nat.reduceAdd, Nat.reduceMul, Nat.reduceBEq, reduceCtorEq, len26, ix26, ld3] <;> rfl) (Nat.le_of_ble_eq_true rfl) ?_
  refine WL_end ?_
  with_reducible repeat (first | refine n1 ?_ | refine n2 ?_ | refine n3 ?_ | refine n4 ?_ | refine n5 ?_ | refine n6 ?_ | refine n7 rfl ?_ | refine W_seq ?_ | refine W_block ?_ | refine W_skip ?_ | refine W_exit ?_ | refine W_ret ?_)
  refine W_cond rfl (fun hb => ?_) (fun hb => ?_)
  · with_reducible repeat (first | refine n1 ?_ | refine n2 ?_ | refine n3 ?_ | refine n4 ?_ | refine n5 ?_ | refine n6 ?_ | refine n7 rfl ?_ | refine W_seq ?_ | refine W_block ?_ | refine W_skip ?_ | refine W_exit ?_ | refine W_ret ?_)
    have hlt : k < xs.length := by simpa using hb
    have hx := map_get (f := iv) hlt
    refine W_go (by simp only [ev0, ev1, ev2, ev3, ev4, Nat.reduceLT, Nat.reduceLeDiff, Nat.reduceEqDiff, Nat.reduceAdd, Nat.reduceMul, Nat.reduceBEq, reduceCtorEq, len26, ix26, ld3, hx, iv] <;> rfl) (Nat.le_of_ble_eq_true rfl) ?_
    refine WL_pure (f30_ok xs[k] 0 65535 _) rfl (.inl rfl) (by simp only [ev0, ev1, ev2, ev3, ev4, Nat.reduceLT, Nat.reduceLeDiff, Nat.reduceEqDiff, Nat.reduceAdd, Nat.reduceMul, Nat.reduceBEq, reduceCtorEq, len26, ix26, ld3] <;> rfl) (by simp only [ev0, ev1, ev2, ev3, ev4, Nat.reduceLT, Nat.reduceLeDiff, Nat.reduceEqDiff, Nat.reduceAdd, Nat.reduceMul, Nat.reduceBEq, reduceCtorEq, len26, ix26, ld3] <;> rfl) rfl (by simp only [ev0, ev1, ev2, ev3, ev4, Nat.reduceLT, Nat.reduceLeDiff, Nat.reduceEqDiff, Nat.reduceAdd, Nat.reduceMul, Nat.reduceBEq, reduceCtorEq, len26, ix26, ld3] <;> rfl) ?_
    refine WL_go (by simp only [ev0, ev1, ev2, ev3, ev4, Nat.reduceLT, Nat.reduceLeDiff, Nat.reduceEqDiff, Nat.reduceAdd, Nat.reduceMul, Nat.reduceBEq, reduceCtorEq, len26, ix26, ld3] <;> rfl) (Nat.le_of_ble_eq_true rfl) ?_
    refine WL_endk (ks := [0, 3, 15]) (by simp only [ev0, ev4, Nat.reduceEqDiff] <;> rfl) ?_
    with_reducible repeat (first | refine n1 ?_ | refine n2 ?_ | refine n3 ?_ | refine n4 ?_ | refine n5 ?_ | refine n6 ?_ | refine n7 rfl ?_ | refine W_seq ?_ | refine W_block ?_ | refine W_skip ?_ | refine W_exit ?_ | refine W_ret ?_)
    refine W_cond rfl (fun hp => ?_) (fun hp => ?_)
    · with_reducible repeat (first | refine n1 ?_ | refine n2 ?_ | refine n3 ?_ | refine n4 ?_ | refine n5 ?_ | refine n6 ?_ | refine n7 rfl ?_ | refine W_seq ?_ | refine W_block ?_ | refine W_skip ?_ | refine W_exit ?_ | refine W_ret ?_)
      refine W_go (by simp only [ev0, ev1, ev2, ev3, ev4, Nat.reduceLT, Nat.reduceLeDiff, Nat.reduceEqDiff, Nat.reduceAdd, Nat.reduceMul, Nat.reduceBEq, reduceCtorEq, len26, ix26, ld3] <;> rfl) (Nat.le_of_ble_eq_true rfl) ?_
      refine WL_endk (ks := [2]) (by simp only [ev0, ev4, Nat.reduceEqDiff] <;> rfl) ?_
      with_reducible repeat (first | refine n1 ?_ | refine n2 ?_ | refine n3 ?_ | refine n4 ?_ | refine n5 ?_ | refine n6 ?_ | refine n7 rfl ?_ | refine W_seq ?_ | refine W_block ?_ | refine W_skip ?_ | refine W_exit ?_ | refine W_ret ?_)
      refine Fin_pure [] _ (by first | exact .inl rfl | exact .inr rfl) rfl (by simp only [Tryd.results38, vres, vresL, vres1, one_, vload_eq, Option.map_some, ev0, ev3, ev4, Nat.reduceEqDiff, Nat.reduceAdd, Nat.reduceLeDiff] <;> rfl) rfl (by simp only [one_, rf_c, rf_any, rf_sl, rf_ptr, rf_fn, rf_agg, rf_tup, rf, List.map_cons, List.map_nil] <;> rfl) hk (by simp) ?_
      exact ⟨by rw [hI.2, any_drop _ hlt]; simp only [inB]; rw [hp]; rfl, rfl⟩
    · with_reducible repeat (first | refine n1 ?_ | refine n2 ?_ | refine n3 ?_ | refine n4 ?_ | refine n5 ?_ | refine n6 ?_ | refine n7 rfl ?_ | refine W_seq ?_ | refine W_block ?_ | refine W_skip ?_ | refine W_exit ?_ | refine W_ret ?_)
      refine W_go (by simp only [ev0, ev1, ev2, ev3, ev4, Nat.reduceLT, Nat.reduceLeDiff, Nat.reduceEqDiff, Nat.reduceAdd, Nat.reduceMul, Nat.reduceBEq, reduceCtorEq, len26, ix26, ld3] <;> rfl) (Nat.le_of_ble_eq_true rfl) ?_
      refine WL_endk (ks := [0, 3]) (by simp only [ev0, ev4, Nat.reduceEqDiff] <;> rfl) ?_
      with_reducible repeat (first | refine n1 ?_ | refine n2 ?_ | refine n3 ?_ | refine n4 ?_ | refine n5 ?_ | refine n6 ?_ | refine n7 rfl ?_ | refine W_seq ?_ | refine W_block ?_ | refine W_skip ?_ | refine W_exit ?_ | refine W_ret ?_)
      exact ⟨k + 1, by rw [wrap64 (by omega) (by omega)]; rfl, ⟨by omega, by rw [hI.2, any_drop _ hlt]; simp only [inB]; rw [hp]; rfl⟩, by omega⟩
  · with_reducible repeat (first | refine n1 ?_ | refine n2 ?_ | refine n3 ?_ | refine n4 ?_ | refine n5 ?_ | refine n6 ?_ | refine n7 rfl ?_ | refine W_seq ?_ | refine W_block ?_ | refine W_skip ?_ | refine W_exit ?_ | refine W_ret ?_)
    refine W_go (by simp only [ev0, ev1, ev2, ev3, ev4, Nat.reduceLT, Nat.reduceLeDiff, Nat.reduceEqDiff, Nat.reduceAdd, Nat.reduceMul, Nat.reduceBEq, reduceCtorEq, len26, ix26, ld3] <;> rfl) (Nat.le_of_ble_eq_true rfl) ?_
    refine WL_endk (ks := [2]) (by simp only [ev0, ev4, Nat.reduceEqDiff] <;> rfl) ?_
    with_reducible repeat (first | refine n1 ?_ | refine n2 ?_ | refine n3 ?_ | refine n4 ?_ | refine n5 ?_ | refine n6 ?_ | refine n7 rfl ?_ | refine W_seq ?_ | refine W_block ?_ | refine W_skip ?_ | refine W_exit ?_ | refine W_ret ?_)
    refine Fin_pure [] _ (by first | exact .inl rfl | exact .inr rfl) rfl (by simp only [Tryd.results38, vres, vresL, vres1, one_, vload_eq, Option.map_some, ev0, ev3, ev4, Nat.reduceEqDiff, Nat.reduceAdd, Nat.reduceLeDiff] <;> rfl) rfl (by simp only [one_, rf_c, rf_any, rf_sl, rf_ptr, rf_fn, rf_agg, rf_tup, rf, List.map_cons, List.map_nil] <;> rfl) hk (by simp) ?_
    have hge : xs.length ≤ k := by simpa using hb
    exact ⟨by rw [hI.2, List.drop_of_length_le hge]; rfl, rfl⟩
end Go.Vm
/- Contracts: comparing and counting masks (the reference's). -/
namespace Go.Vm
open Go Go.RowKit Go.Proofs
set_option linter.unusedSimpArgs false
set_option linter.unusedVariables false

theorem drop_ne {α : Type} {xs ys : List α} {k : Nat} (h1 : k < xs.length) (h2 : k < ys.length) : (xs.drop k = ys.drop k) ↔ (xs[k] = ys[k] ∧ xs.drop (k + 1) = ys.drop (k + 1)) := by
  rw [List.drop_eq_getElem_cons h1, List.drop_eq_getElem_cons h2, List.cons.injEq]

theorem f20_ok {G} (xs ys : List Int) (h : Hp) (hlen : xs.length < 4611686018427387904) (hlen' : ys.length < 4611686018427387904) : VPure Tryd.prog G (.fn 20 []) [.sl 1 (xs.map iv), .sl 1 (ys.map iv)] h (.c (.bool (decide (xs = ys)))) := by
  refine VCall_fn' (tdOf_ok _) Tryd.func20 rfl (by rfl) 26 rfl (by simp) (by simp only [ents, List.cons_append, List.nil_append, List.append_nil] <;> rfl) (fun hk ha hc => ?_)
  with_reducible repeat (first | refine n1 ?_ | refine n2 ?_ | refine n3 ?_ | refine n4 ?_ | refine n5 ?_ | refine n6 ?_ | refine n7 rfl ?_ | refine W_seq ?_ | refine W_block ?_ | refine W_skip ?_ | refine W_exit ?_ | refine W_ret ?_)
  by_cases hl : xs.length = ys.length
  · have hl' : ((xs.length : Int) != (ys.length : Int)) = false := by simp [hl]
    refine W_go (by simp only [ev0, ev1, ev2, ev3, ev4, Nat.reduceLT, Nat.reduceLeDiff, Nat.reduceEqDiff, Nat.reduceAdd, Nat.reduceMul, Nat.reduceBEq, reduceCtorEq, len26, ix26, ld3] <;> rfl) (Nat.le_of_ble_eq_true rfl) ?_
    refine WL_end ?_
    with_reducible repeat (first | refine n1 ?_ | refine n2 ?_ | refine n3 ?_ | refine n4 ?_ | refine n5 ?_ | refine n6 ?_ | refine n7 rfl ?_ | refine W_seq ?_ | refine W_block ?_ | refine W_skip ?_ | refine W_exit ?_ | refine W_ret ?_)
    refine W_go (by simp only [ev0, ev1, ev2, ev3, ev4, Nat.reduceLT, Nat.reduceLeDiff, Nat.reduceEqDiff, Nat.reduceAdd, Nat.reduceMul, Nat.reduceBEq, reduceCtorEq, len26, ix26, ld3, hl'] <;> rfl) (Nat.le_of_ble_eq_true rfl) ?_
    refine WL_endk (ks := [0, 1, 10]) (by simp only [ev0, ev4, Nat.reduceEqDiff] <;> rfl) ?_
    with_reducible repeat (first | refine n1 ?_ | refine n2 ?_ | refine n3 ?_ | refine n4 ?_ | refine n5 ?_ | refine n6 ?_ | refine n7 rfl ?_ | refine W_seq ?_ | refine W_block ?_ | refine W_skip ?_ | refine W_exit ?_ | refine W_ret ?_)
    refine W_false rfl ?_
    with_reducible repeat (first | refine n1 ?_ | refine n2 ?_ | refine n3 ?_ | refine n4 ?_ | refine n5 ?_ | refine n6 ?_ | refine n7 rfl ?_ | refine W_seq ?_ | refine W_block ?_ | refine W_skip ?_ | refine W_exit ?_ | refine W_ret ?_)
    refine W_go (by simp only [ev0, ev1, ev2, ev3, ev4, Nat.reduceLT, Nat.reduceLeDiff, Nat.reduceEqDiff, Nat.reduceAdd, Nat.reduceMul, Nat.reduceBEq, reduceCtorEq, len26, ix26, ld3] <;> rfl) (Nat.le_of_ble_eq_true rfl) ?_
    refine WL_endk (ks := [0, 1, 5]) (by simp only [ev0, ev4, Nat.reduceEqDiff] <;> rfl) ?_
    with_reducible repeat (first | refine n1 ?_ | refine n2 ?_ | refine n3 ?_ | refine n4 ?_ | refine n5 ?_ | refine n6 ?_ | refine n7 rfl ?_ | refine W_seq ?_ | refine W_block ?_ | refine W_skip ?_ | refine W_exit ?_ | refine W_ret ?_)
    refine W_loopS (fun k : Nat => ⟨26, [(0, .sl 1 (xs.map iv)), (1, .sl 1 (ys.map iv)), (5, .c (.int .i64 k))], h ++ [], []⟩) (fun k => k ≤ xs.length ∧ ((xs = ys) ↔ (xs.drop k = ys.drop k))) (fun k => xs.length - k) 0 (by simp) rfl (fun k hI => ?_)
    with_reducible repeat (first | refine n1 ?_ | refine n2 ?_ | refine n3 ?_ | refine n4 ?_ | refine n5 ?_ | refine n6 ?_ | refine n7 rfl ?_ | refine W_seq ?_ | refine W_block ?_ | refine W_skip ?_ | refine W_exit ?_ | refine W_ret ?_)
    refine W_go (by simp only [ev0, ev1, ev2, ev3, ev4, Nat.reduceLT, Nat.reduceLeDiff, Nat.reduceEqDiff, Nat.reduceAdd, Nat.reduceMul, Nat.reduceBEq, reduceCtorEq, len26, ix26, ld3] <;> rfl) (Nat.le_of_ble_eq_true rfl) ?_
    refine WL_end ?_
    with_reducible repeat (first | refine n1 ?_ | refine n2 ?_ | refine n3 ?_ | refine n4 ?_ | refine n5 ?_ | refine n6 ?_ | refine n7 rfl ?_ | refine W_seq ?_ | refine W_block ?_ | refine W_skip ?_ | refine W_exit ?_ | refine W_ret ?_)
    refine W_cond rfl (fun hb => ?_) (fun hb => ?_)
    · with_reducible repeat (first | refine n1 ?_ | refine n2 ?_ | refine n3 ?_ | refine n4 ?_ | refine n5 ?_ | refine n6 ?_ | refine n7 rfl ?_ | refine W_seq ?_ | refine W_block ?_ | refine W_skip ?_ | refine W_exit ?_ | refine W_ret ?_)
      have hlt : k < xs.length := by simpa using hb
      have hlt2 : k < ys.length := by omega
      have hx := map_get (f := iv) hlt
      have hy := map_get (f := iv) hlt2
      cases h1 : xs[k] != ys[k]
      · refine W_draw (by kernel_rfl) (DR_end (by simp only [ev0, ev1, ev2, ev3, ev4, Nat.reduceLT, Nat.reduceLeDiff, Nat.reduceEqDiff, Nat.reduceAdd, Nat.reduceMul, Nat.reduceBEq, reduceCtorEq, len26, ix26, ld3, hx, hy, iv, h1] <;> rfl)) (by kernel_rfl) (by first | exact trivial | kernel_rfl) ?_
        with_reducible repeat (first | refine n1 ?_ | refine n2 ?_ | refine n3 ?_ | refine n4 ?_ | refine n5 ?_ | refine n6 ?_ | refine n7 rfl ?_ | refine W_seq ?_ | refine W_block ?_ | refine W_skip ?_ | refine W_exit ?_ | refine W_ret ?_)
        refine W_keep' (ks := [0, 1, 5, 25]) (by simp only [ev0, ev4, Nat.reduceEqDiff] <;> rfl) ?_
        refine W_false rfl ?_
        with_reducible repeat (first | refine n1 ?_ | refine n2 ?_ | refine n3 ?_ | refine n4 ?_ | refine n5 ?_ | refine n6 ?_ | refine n7 rfl ?_ | refine W_seq ?_ | refine W_block ?_ | refine W_skip ?_ | refine W_exit ?_ | refine W_ret ?_)
        refine W_go (by simp only [ev0, ev1, ev2, ev3, ev4, Nat.reduceLT, Nat.reduceLeDiff, Nat.reduceEqDiff, Nat.reduceAdd, Nat.reduceMul, Nat.reduceBEq, reduceCtorEq, len26, ix26, ld3] <;> rfl) (Nat.le_of_ble_eq_true rfl) ?_
        refine WL_endk (ks := [0, 1, 5]) (by simp only [ev0, ev4, Nat.reduceEqDiff] <;> rfl) ?_
        with_reducible repeat (first | refine n1 ?_ | refine n2 ?_ | refine n3 ?_ | refine n4 ?_ | refine n5 ?_ | refine n6 ?_ | refine n7 rfl ?_ | refine W_seq ?_ | refine W_block ?_ | refine W_skip ?_ | refine W_exit ?_ | refine W_ret ?_)
        exact ⟨k + 1, by rw [wrap64 (by omega) (by omega)]; rfl, ⟨by omega, by rw [hI.2, drop_ne hlt hlt2]; simp at h1; simp [h1]⟩, by omega⟩
      · refine W_draw (by kernel_rfl) (DR_end (by simp only [ev0, ev1, ev2, ev3, ev4, Nat.reduceLT, Nat.reduceLeDiff, Nat.reduceEqDiff, Nat.reduceAdd, Nat.reduceMul, Nat.reduceBEq, reduceCtorEq, len26, ix26, ld3, hx, hy, iv, h1] <;> rfl)) (by kernel_rfl) (by first | exact trivial | kernel_rfl) ?_
        with_reducible repeat (first | refine n1 ?_ | refine n2 ?_ | refine n3 ?_ | refine n4 ?_ | refine n5 ?_ | refine n6 ?_ | refine n7 rfl ?_ | refine W_seq ?_ | refine W_block ?_ | refine W_skip ?_ | refine W_exit ?_ | refine W_ret ?_)
        refine W_keep' (ks := [0, 1, 5, 25]) (by simp only [ev0, ev4, Nat.reduceEqDiff] <;> rfl) ?_
        refine W_true rfl ?_
        with_reducible repeat (first | refine n1 ?_ | refine n2 ?_ | refine n3 ?_ | refine n4 ?_ | refine n5 ?_ | refine n6 ?_ | refine n7 rfl ?_ | refine W_seq ?_ | refine W_block ?_ | refine W_skip ?_ | refine W_exit ?_ | refine W_ret ?_)
        refine W_go (by simp only [ev0, ev1, ev2, ev3, ev4, Nat.reduceLT, Nat.reduceLeDiff, Nat.reduceEqDiff, Nat.reduceAdd, Nat.reduceMul, Nat.reduceBEq, reduceCtorEq, len26, ix26, ld3] <;> rfl) (Nat.le_of_ble_eq_true rfl) ?_
        refine WL_endk (ks := [4]) (by simp only [ev0, ev4, Nat.reduceEqDiff] <;> rfl) ?_
        with_reducible repeat (first | refine n1 ?_ | refine n2 ?_ | refine n3 ?_ | refine n4 ?_ | refine n5 ?_ | refine n6 ?_ | refine n7 rfl ?_ | refine W_seq ?_ | refine W_block ?_ | refine W_skip ?_ | refine W_exit ?_ | refine W_ret ?_)
        refine Fin_pure [] _ (by first | exact .inl rfl | exact .inr rfl) rfl (by simp only [Tryd.results20, vres, vresL, vres1, one_, vload_eq, Option.map_some, ev0, ev3, ev4, Nat.reduceEqDiff, Nat.reduceAdd, Nat.reduceLeDiff] <;> rfl) rfl (by simp only [one_, rf_c, rf_any, rf_sl, rf_ptr, rf_fn, rf_agg, rf_tup, rf, List.map_cons, List.map_nil] <;> rfl) hk (by simp) ?_
        exact ⟨by rw [decide_eq_false]; rw [hI.2, drop_ne hlt hlt2]; simp at h1; simp [h1], rfl⟩
    · with_reducible repeat (first | refine n1 ?_ | refine n2 ?_ | refine n3 ?_ | refine n4 ?_ | refine n5 ?_ | refine n6 ?_ | refine n7 rfl ?_ | refine W_seq ?_ | refine W_block ?_ | refine W_skip ?_ | refine W_exit ?_ | refine W_ret ?_)
      refine W_go (by simp only [ev0, ev1, ev2, ev3, ev4, Nat.reduceLT, Nat.reduceLeDiff, Nat.reduceEqDiff, Nat.reduceAdd, Nat.reduceMul, Nat.reduceBEq, reduceCtorEq, len26, ix26, ld3] <;> rfl) (Nat.le_of_ble_eq_true rfl) ?_
      refine WL_endk (ks := [4]) (by simp only [ev0, ev4, Nat.reduceEqDiff] <;> rfl) ?_
      with_reducible repeat (first | refine n1 ?_ | refine n2 ?_ | refine n3 ?_ | refine n4 ?_ | refine n5 ?_ | refine n6 ?_ | refine n7 rfl ?_ | refine W_seq ?_ | refine W_block ?_ | refine W_skip ?_ | refine W_exit ?_ | refine W_ret ?_)
      refine Fin_pure [] _ (by first | exact .inl rfl | exact .inr rfl) rfl (by simp only [Tryd.results20, vres, vresL, vres1, one_, vload_eq, Option.map_some, ev0, ev3, ev4, Nat.reduceEqDiff, Nat.reduceAdd, Nat.reduceLeDiff] <;> rfl) rfl (by simp only [one_, rf_c, rf_any, rf_sl, rf_ptr, rf_fn, rf_agg, rf_tup, rf, List.map_cons, List.map_nil] <;> rfl) hk (by simp) ?_
      have hge : xs.length ≤ k := by simpa using hb
      exact ⟨by rw [decide_eq_true]; rw [hI.2, List.drop_of_length_le hge, List.drop_of_length_le (by omega)], rfl⟩
  · have hl' : ((xs.length : Int) != (ys.length : Int)) = true := by simp; omega
    refine W_go (by simp only [ev0, ev1, ev2, ev3, ev4, Nat.reduceLT, Nat.reduceLeDiff, Nat.reduceEqDiff, Nat.reduceAdd, Nat.reduceMul, Nat.reduceBEq, reduceCtorEq, len26, ix26, ld3] <;> rfl) (Nat.le_of_ble_eq_true rfl) ?_
    refine WL_end ?_
    with_reducible repeat (first | refine n1 ?_ | refine n2 ?_ | refine n3 ?_ | refine n4 ?_ | refine n5 ?_ | refine n6 ?_ | refine n7 rfl ?_ | refine W_seq ?_ | refine W_block ?_ | refine W_skip ?_ | refine W_exit ?_ | refine W_ret ?_)
    refine W_go (by simp only [ev0, ev1, ev2, ev3, ev4, Nat.reduceLT, Nat.reduceLeDiff, Nat.reduceEqDiff, Nat.reduceAdd, Nat.reduceMul, Nat.reduceBEq, reduceCtorEq, len26, ix26, ld3, hl'] <;> rfl) (Nat.le_of_ble_eq_true rfl) ?_
    refine WL_endk (ks := [0, 1, 10]) (by simp only [ev0, ev4, Nat.reduceEqDiff] <;> rfl) ?_
    with_reducible repeat (first | refine n1 ?_ | refine n2 ?_ | refine n3 ?_ | refine n4 ?_ | refine n5 ?_ | refine n6 ?_ | refine n7 rfl ?_ | refine W_seq ?_ | refine W_block ?_ | refine W_skip ?_ | refine W_exit ?_ | refine W_ret ?_)
    refine W_true rfl ?_
    with_reducible repeat (first | refine n1 ?_ | refine n2 ?_ | refine n3 ?_ | refine n4 ?_ | refine n5 ?_ | refine n6 ?_ | refine n7 rfl ?_ | refine W_seq ?_ | refine W_block ?_ | refine W_skip ?_ | refine W_exit ?_ | refine W_ret ?_)
    refine W_go (by simp only [ev0, ev1, ev2, ev3, ev4, Nat.reduceLT, Nat.reduceLeDiff, Nat.reduceEqDiff, Nat.reduceAdd, Nat.reduceMul, Nat.reduceBEq, reduceCtorEq, len26, ix26, ld3] <;> rfl) (Nat.le_of_ble_eq_true rfl) ?_
    refine WL_endk (ks := [4]) (by simp only [ev0, ev4, Nat.reduceEqDiff] <;> rfl) ?_
    with_reducible repeat (first | refine n1 ?_ | refine n2 ?_ | refine n3 ?_ | refine n4 ?_ | refine n5 ?_ | refine n6 ?_ | refine n7 rfl ?_ | refine W_seq ?_ | refine W_block ?_ | refine W_skip ?_ | refine W_exit ?_ | refine W_ret ?_)
    refine Fin_pure [] _ (by first | exact .inl rfl | exact .inr rfl) rfl (by simp only [Tryd.results20, vres, vresL, vres1, one_, vload_eq, Option.map_some, ev0, ev3, ev4, Nat.reduceEqDiff, Nat.reduceAdd, Nat.reduceLeDiff] <;> rfl) rfl (by simp only [one_, rf_c, rf_any, rf_sl, rf_ptr, rf_fn, rf_agg, rf_tup, rf, List.map_cons, List.map_nil] <;> rfl) hk (by simp) ?_
    exact ⟨by rw [decide_eq_false]; intro e; exact hl (by rw [e]), rfl⟩
theorem f22_ok {G} (xs ys : List Int) (h : Hp) (hlen : xs.length < 4611686018427387904) (hlen' : ys.length < 4611686018427387904) : VPure Tryd.prog G (.fn 22 []) [.sl 1 (xs.map iv), .sl 1 (ys.map iv)] h (.c (.bool (decide (xs = ys)))) := by
  refine VCall_fn' (tdOf_ok _) Tryd.func22 rfl (by rfl) 26 rfl (by simp) (by simp only [ents, List.cons_append, List.nil_append, List.append_nil] <;> rfl) (fun hk ha hc => ?_)
  with_reducible repeat (first | refine n1 ?_ | refine n2 ?_ | refine n3 ?_ | refine n4 ?_ | refine n5 ?_ | refine n6 ?_ | refine n7 rfl ?_ | refine W_seq ?_ | refine W_block ?_ | refine W_skip ?_ | refine W_exit ?_ | refine W_ret ?_)
  by_cases hl : xs.length = ys.length
  · have hl' : ((xs.length : Int) != (ys.length : Int)) = false := by simp [hl]
    refine W_go (by simp only [ev0, ev1, ev2, ev3, ev4, Nat.reduceLT, Nat.reduceLeDiff, Nat.reduceEqDiff, Nat.reduceAdd, Nat.reduceMul, Nat.reduceBEq, reduceCtorEq, len26, ix26, ld3] <;> rfl) (Nat.le_of_ble_eq_true rfl) ?_
    refine WL_end ?_
    with_reducible repeat (first | refine n1 ?_ | refine n2 ?_ | refine n3 ?_ | refine n4 ?_ | refine n5 ?_ | refine n6 ?_ | refine n7 rfl ?_ | refine W_seq ?_ | refine W_block ?_ | refine W_skip ?_ | refine W_exit ?_ | refine W_ret ?_)
    refine W_go (by simp only [ev0, ev1, ev2, ev3, ev4, Nat.reduceLT, Nat.reduceLeDiff, Nat.reduceEqDiff, Nat.reduceAdd, Nat.reduceMul, Nat.reduceBEq, reduceCtorEq, len26, ix26, ld3, hl'] <;> rfl) (Nat.le_of_ble_eq_true rfl) ?_
    refine WL_endk (ks := [0, 1, 10]) (by simp only [ev0, ev4, Nat.reduceEqDiff] <;> rfl) ?_
    with_reducible repeat (first | refine n1 ?_ | refine n2 ?_ | refine n3 ?_ | refine n4 ?_ | refine n5 ?_ | refine n6 ?_ | refine n7 rfl ?_ | refine W_seq ?_ | refine W_block ?_ | refine W_skip ?_ | refine W_exit ?_ | refine W_ret ?_)
    refine W_false rfl ?_
    with_reducible repeat (first | refine n1 ?_ | refine n2 ?_ | refine n3 ?_ | refine n4 ?_ | refine n5 ?_ | refine n6 ?_ | refine n7 rfl ?_ | refine W_seq ?_ | refine W_block ?_ | refine W_skip ?_ | refine W_exit ?_ | refine W_ret ?_)
    refine W_go (by simp only [ev0, ev1, ev2, ev3, ev4, Nat.reduceLT, Nat.reduceLeDiff, Nat.reduceEqDiff, Nat.reduceAdd, Nat.reduceMul, Nat.reduceBEq, reduceCtorEq, len26, ix26, ld3] <;> rfl) (Nat.le_of_ble_eq_true rfl) ?_
    refine WL_endk (ks := [0, 1, 12, 13]) (by simp only [ev0, ev4, Nat.reduceEqDiff] <;> rfl) ?_
    with_reducible repeat (first | refine n1 ?_ | refine n2 ?_ | refine n3 ?_ | refine n4 ?_ | refine n5 ?_ | refine n6 ?_ | refine n7 rfl ?_ | refine W_seq ?_ | refine W_block ?_ | refine W_skip ?_ | refine W_exit ?_ | refine W_ret ?_)
    refine W_loopS (fun k : Nat => ⟨26, [(0, .sl 1 (xs.map iv)), (1, .sl 1 (ys.map iv)), (12, .c (.int .i64 xs.length)), (13, .c (.int .i64 k))], h ++ [], []⟩) (fun k => k ≤ xs.length ∧ ((xs = ys) ↔ (xs.drop k = ys.drop k))) (fun k => xs.length - k) 0 (by simp) rfl (fun k hI => ?_)
    with_reducible repeat (first | refine n1 ?_ | refine n2 ?_ | refine n3 ?_ | refine n4 ?_ | refine n5 ?_ | refine n6 ?_ | refine n7 rfl ?_ | refine W_seq ?_ | refine W_block ?_ | refine W_skip ?_ | refine W_exit ?_ | refine W_ret ?_)
    refine W_go (by simp only [ev0, ev1, ev2, ev3, ev4, Nat.reduceLT, Nat.reduceLeDiff, Nat.reduceEqDiff, Nat.reduceAdd, Nat.reduceMul, Nat.reduceBEq, reduceCtorEq, len26, ix26, ld3] <;> rfl) (Nat.le_of_ble_eq_true rfl) ?_
    refine WL_end ?_
    with_reducible repeat (first | refine n1 ?_ | refine n2 ?_ | refine n3 ?_ | refine n4 ?_ | refine n5 ?_ | refine n6 ?_ | refine n7 rfl ?_ | refine W_seq ?_ | refine W_block ?_ | refine W_skip ?_ | refine W_exit ?_ | refine W_ret ?_)
    refine W_cond rfl (fun hb => ?_) (fun hb => ?_)
    · with_reducible repeat (first | refine n1 ?_ | refine n2 ?_ | refine n3 ?_ | refine n4 ?_ | refine n5 ?_ | refine n6 ?_ | refine n7 rfl ?_ | refine W_seq ?_ | refine W_block ?_ | refine W_skip ?_ | refine W_exit ?_ | refine W_ret ?_)
      have hlt : k < xs.length := by simpa using hb
      have hlt2 : k < ys.length := by omega
      have hx := map_get (f := iv) hlt
      have hy := map_get (f := iv) hlt2
      refine W_go (by simp only [ev0, ev1, ev2, ev3, ev4, Nat.reduceLT, Nat.reduceLeDiff, Nat.reduceEqDiff, Nat.reduceAdd, Nat.reduceMul, Nat.reduceBEq, reduceCtorEq, len26, ix26, ld3] <;> rfl) (Nat.le_of_ble_eq_true rfl) ?_
      refine WL_endk (ks := [0, 1, 5, 12, 13]) (by simp only [ev0, ev4, Nat.reduceEqDiff] <;> rfl) ?_
      with_reducible repeat (first | refine n1 ?_ | refine n2 ?_ | refine n3 ?_ | refine n4 ?_ | refine n5 ?_ | refine n6 ?_ | refine n7 rfl ?_ | refine W_seq ?_ | refine W_block ?_ | refine W_skip ?_ | refine W_exit ?_ | refine W_ret ?_)
      cases h1 : xs[k] != ys[k]
      · refine W_draw (by kernel_rfl) (DR_end (by simp only [ev0, ev1, ev2, ev3, ev4, Nat.reduceLT, Nat.reduceLeDiff, Nat.reduceEqDiff, Nat.reduceAdd, Nat.reduceMul, Nat.reduceBEq, reduceCtorEq, len26, ix26, ld3, hx, hy, iv, h1] <;> rfl)) (by kernel_rfl) (by first | exact trivial | kernel_rfl) ?_
        with_reducible repeat (first | refine n1 ?_ | refine n2 ?_ | refine n3 ?_ | refine n4 ?_ | refine n5 ?_ | refine n6 ?_ | refine n7 rfl ?_ | refine W_seq ?_ | refine W_block ?_ | refine W_skip ?_ | refine W_exit ?_ | refine W_ret ?_)
        refine W_keep' (ks := [0, 1, 12, 13, 24]) (by simp only [ev0, ev4, Nat.reduceEqDiff] <;> rfl) ?_
        refine W_false rfl ?_
        with_reducible repeat (first | refine n1 ?_ | refine n2 ?_ | refine n3 ?_ | refine n4 ?_ | refine n5 ?_ | refine n6 ?_ | refine n7 rfl ?_ | refine W_seq ?_ | refine W_block ?_ | refine W_skip ?_ | refine W_exit ?_ | refine W_ret ?_)
        refine W_go (by simp only [ev0, ev1, ev2, ev3, ev4, Nat.reduceLT, Nat.reduceLeDiff, Nat.reduceEqDiff, Nat.reduceAdd, Nat.reduceMul, Nat.reduceBEq, reduceCtorEq, len26, ix26, ld3] <;> rfl) (Nat.le_of_ble_eq_true rfl) ?_
        refine WL_endk (ks := [0, 1, 12, 13]) (by simp only [ev0, ev4, Nat.reduceEqDiff] <;> rfl) ?_
        with_reducible repeat (first | refine n1 ?_ | refine n2 ?_ | refine n3 ?_ | refine n4 ?_ | refine n5 ?_ | refine n6 ?_ | refine n7 rfl ?_ | refine W_seq ?_ | refine W_block ?_ | refine W_skip ?_ | refine W_exit ?_ | refine W_ret ?_)
        exact ⟨k + 1, by rw [wrap64 (by omega) (by omega)]; rfl, ⟨by omega, by rw [hI.2, drop_ne hlt hlt2]; simp at h1; simp [h1]⟩, by omega⟩
      · refine W_draw (by kernel_rfl) (DR_end (by simp only [ev0, ev1, ev2, ev3, ev4, Nat.reduceLT, Nat.reduceLeDiff, Nat.reduceEqDiff, Nat.reduceAdd, Nat.reduceMul, Nat.reduceBEq, reduceCtorEq, len26, ix26, ld3, hx, hy, iv, h1] <;> rfl)) (by kernel_rfl) (by first | exact trivial | kernel_rfl) ?_
        with_reducible repeat (first | refine n1 ?_ | refine n2 ?_ | refine n3 ?_ | refine n4 ?_ | refine n5 ?_ | refine n6 ?_ | refine n7 rfl ?_ | refine W_seq ?_ | refine W_block ?_ | refine W_skip ?_ | refine W_exit ?_ | refine W_ret ?_)
        refine W_keep' (ks := [0, 1, 24]) (by simp only [ev0, ev4, Nat.reduceEqDiff] <;> rfl) ?_
        refine W_true rfl ?_
        with_reducible repeat (first | refine n1 ?_ | refine n2 ?_ | refine n3 ?_ | refine n4 ?_ | refine n5 ?_ | refine n6 ?_ | refine n7 rfl ?_ | refine W_seq ?_ | refine W_block ?_ | refine W_skip ?_ | refine W_exit ?_ | refine W_ret ?_)
        refine W_go (by simp only [ev0, ev1, ev2, ev3, ev4, Nat.reduceLT, Nat.reduceLeDiff, Nat.reduceEqDiff, Nat.reduceAdd, Nat.reduceMul, Nat.reduceBEq, reduceCtorEq, len26, ix26, ld3] <;> rfl) (Nat.le_of_ble_eq_true rfl) ?_
        refine WL_endk (ks := [4]) (by simp only [ev0, ev4, Nat.reduceEqDiff] <;> rfl) ?_
        with_reducible repeat (first | refine n1 ?_ | refine n2 ?_ | refine n3 ?_ | refine n4 ?_ | refine n5 ?_ | refine n6 ?_ | refine n7 rfl ?_ | refine W_seq ?_ | refine W_block ?_ | refine W_skip ?_ | refine W_exit ?_ | refine W_ret ?_)
        refine Fin_pure [] _ (by first | exact .inl rfl | exact .inr rfl) rfl (by simp only [Tryd.results22, vres, vresL, vres1, one_, vload_eq, Option.map_some, ev0, ev3, ev4, Nat.reduceEqDiff, Nat.reduceAdd, Nat.reduceLeDiff] <;> rfl) rfl (by simp only [one_, rf_c, rf_any, rf_sl, rf_ptr, rf_fn, rf_agg, rf_tup, rf, List.map_cons, List.map_nil] <;> rfl) hk (by simp) ?_
        exact ⟨by rw [decide_eq_false]; rw [hI.2, drop_ne hlt hlt2]; simp at h1; simp [h1], rfl⟩
    · with_reducible repeat (first | refine n1 ?_ | refine n2 ?_ | refine n3 ?_ | refine n4 ?_ | refine n5 ?_ | refine n6 ?_ | refine n7 rfl ?_ | refine W_seq ?_ | refine W_block ?_ | refine W_skip ?_ | refine W_exit ?_ | refine W_ret ?_)
      refine W_go (by simp only [ev0, ev1, ev2, ev3, ev4, Nat.reduceLT, Nat.reduceLeDiff, Nat.reduceEqDiff, Nat.reduceAdd, Nat.reduceMul, Nat.reduceBEq, reduceCtorEq, len26, ix26, ld3] <;> rfl) (Nat.le_of_ble_eq_true rfl) ?_
      refine WL_endk (ks := [4]) (by simp only [ev0, ev4, Nat.reduceEqDiff] <;> rfl) ?_
      with_reducible repeat (first | refine n1 ?_ | refine n2 ?_ | refine n3 ?_ | refine n4 ?_ | refine n5 ?_ | refine n6 ?_ | refine n7 rfl ?_ | refine W_seq ?_ | refine W_block ?_ | refine W_skip ?_ | refine W_exit ?_ | refine W_ret ?_)
      refine Fin_pure [] _ (by first | exact .inl rfl | exact .inr rfl) rfl (by simp only [Tryd.results22, vres, vresL, vres1, one_, vload_eq, Option.map_some, ev0, ev3, ev4, Nat.reduceEqDiff, Nat.reduceAdd, Nat.reduceLeDiff] <;> rfl) rfl (by simp only [one_, rf_c, rf_any, rf_sl, rf_ptr, rf_fn, rf_agg, rf_tup, rf, List.map_cons, List.map_nil] <;> rfl) hk (by simp) ?_
      have hge : xs.length ≤ k := by simpa using hb
      exact ⟨by rw [decide_eq_true]; rw [hI.2, List.drop_of_length_le hge, List.drop_of_length_le (by omega)], rfl⟩
  · have hl' : ((xs.length : Int) != (ys.length : Int)) = true := by simp; omega
    refine W_go (by simp only [ev0, ev1, ev2, ev3, ev4, Nat.reduceLT, Nat.reduceLeDiff, Nat.reduceEqDiff, Nat.reduceAdd, Nat.reduceMul, Nat.reduceBEq, reduceCtorEq, len26, ix26, ld3] <;> rfl) (Nat.le_of_ble_eq_true rfl) ?_
    refine WL_end ?_
    with_reducible repeat (first | refine n1 ?_ | refine n2 ?_ | refine n3 ?_ | refine n4 ?_ | refine n5 ?_ | refine n6 ?_ | refine n7 rfl ?_ | refine W_seq ?_ | refine W_block ?_ | refine W_skip ?_ | refine W_exit ?_ | refine W_ret ?_)
    refine W_go (by simp only [ev0, ev1, ev2, ev3, ev4, Nat.reduceLT, Nat.reduceLeDiff, Nat.reduceEqDiff, Nat.reduceAdd, Nat.reduceMul, Nat.reduceBEq, reduceCtorEq, len26, ix26, ld3, hl'] <;> rfl) (Nat.le_of_ble_eq_true rfl) ?_
    refine WL_endk (ks := [0, 1, 10]) (by simp only [ev0, ev4, Nat.reduceEqDiff] <;> rfl) ?_
    with_reducible repeat (first | refine n1 ?_ | refine n2 ?_ | refine n3 ?_ | refine n4 ?_ | refine n5 ?_ | refine n6 ?_ | refine n7 rfl ?_ | refine W_seq ?_ | refine W_block ?_ | refine W_skip ?_ | refine W_exit ?_ | refine W_ret ?_)
    refine W_true rfl ?_
    with_reducible repeat (first | refine n1 ?_ | refine n2 ?_ | refine n3 ?_ | refine n4 ?_ | refine n5 ?_ | refine n6 ?_ | refine n7 rfl ?_ | refine W_seq ?_ | refine W_block ?_ | refine W_skip ?_ | refine W_exit ?_ | refine W_ret ?_)
    refine W_go (by simp only [ev0, ev1, ev2, ev3, ev4, Nat.reduceLT, Nat.reduceLeDiff, Nat.reduceEqDiff, Nat.reduceAdd, Nat.reduceMul, Nat.reduceBEq, reduceCtorEq, len26, ix26, ld3] <;> rfl) (Nat.le_of_ble_eq_true rfl) ?_
    refine WL_endk (ks := [4]) (by simp only [ev0, ev4, Nat.reduceEqDiff] <;> rfl) ?_
    with_reducible repeat (first | refine n1 ?_ | refine n2 ?_ | refine n3 ?_ | refine n4 ?_ | refine n5 ?_ | refine n6 ?_ | refine n7 rfl ?_ | refine W_seq ?_ | refine W_block ?_ | refine W_skip ?_ | refine W_exit ?_ | refine W_ret ?_)
    refine Fin_pure [] _ (by first | exact .inl rfl | exact .inr rfl) rfl (by simp only [Tryd.results22, vres, vresL, vres1, one_, vload_eq, Option.map_some, ev0, ev3, ev4, Nat.reduceEqDiff, Nat.reduceAdd, Nat.reduceLeDiff] <;> rfl) rfl (by simp only [one_, rf_c, rf_any, rf_sl, rf_ptr, rf_fn, rf_agg, rf_tup, rf, List.map_cons, List.map_nil] <;> rfl) hk (by simp) ?_
    exact ⟨by rw [decide_eq_false]; intro e; exact hl (by rw [e]), rfl⟩

/-- Is the number none of a mask? -/
def outM (off m : Int) : Bool := !inB m 0 (IntKind.i64.wrap (ishl .i64 1 off - 1))
/-- The first fault of masks. -/
def chkS (xs : List Int) (len off : Int) : Int :=
  if (inB len 1 512 && inB off 1 16) = false then 2 else if (xs.length : Int) ≠ len then 11 else if xs.any (outM off) then 2 else 0

theorem f19_ok {G} (xs : List Int) (len off : Int) (h : Hp) (hlen : xs.length < 4611686018427387904) : VPure Tryd.prog G (.fn 19 []) [.sl 1 (xs.map iv), .c (.int .i64 len), .c (.int .i64 off)] h (.c (.int .i64 (chkS xs len off))) := by
  refine VCall_fn' (tdOf_ok _) Tryd.func19 rfl (by rfl) 35 rfl (by simp) (by simp only [ents, List.cons_append, List.nil_append, List.append_nil] <;> rfl) (fun hk ha hc => ?_)
  with_reducible repeat (first | refine n1 ?_ | refine n2 ?_ | refine n3 ?_ | refine n4 ?_ | refine n5 ?_ | refine n6 ?_ | refine n7 rfl ?_ | refine W_seq ?_ | refine W_block ?_ | refine W_skip ?_ | refine W_exit ?_ | refine W_ret ?_)
  cases h1 : inB len 1 512
  · have h1' := h1
    unfold inB at h1'
    refine W_go (by simp only [ev0, ev1, ev2, ev3, ev4, Nat.reduceLT, Nat.reduceLeDiff, Nat.reduceEqDiff, Nat.reduceAdd, Nat.reduceMul, Nat.reduceBEq, reduceCtorEq, len26, ix26, ld3] <;> rfl) (Nat.le_of_ble_eq_true rfl) ?_
    refine WL_end ?_
    with_reducible repeat (first | refine n1 ?_ | refine n2 ?_ | refine n3 ?_ | refine n4 ?_ | refine n5 ?_ | refine n6 ?_ | refine n7 rfl ?_ | refine W_seq ?_ | refine W_block ?_ | refine W_skip ?_ | refine W_exit ?_ | refine W_ret ?_)
    refine W_go (by simp only [ev0, ev1, ev2, ev3, ev4, Nat.reduceLT, Nat.reduceLeDiff, Nat.reduceEqDiff, Nat.reduceAdd, Nat.reduceMul, Nat.reduceBEq, reduceCtorEq, len26, ix26, ld3] <;> rfl) (Nat.le_of_ble_eq_true rfl) ?_
    refine WL_pure (f30_ok len 1 512 _) rfl (.inl rfl) (by simp only [ev0, ev1, ev2, ev3, ev4, Nat.reduceLT, Nat.reduceLeDiff, Nat.reduceEqDiff, Nat.reduceAdd, Nat.reduceMul, Nat.reduceBEq, reduceCtorEq, len26, ix26, ld3] <;> rfl) (by simp only [ev0, ev1, ev2, ev3, ev4, Nat.reduceLT, Nat.reduceLeDiff, Nat.reduceEqDiff, Nat.reduceAdd, Nat.reduceMul, Nat.reduceBEq, reduceCtorEq, len26, ix26, ld3] <;> rfl) rfl (by simp only [ev0, ev1, ev2, ev3, ev4, Nat.reduceLT, Nat.reduceLeDiff, Nat.reduceEqDiff, Nat.reduceAdd, Nat.reduceMul, Nat.reduceBEq, reduceCtorEq, len26, ix26, ld3] <;> rfl) ?_
    refine WL_go (by simp only [ev0, ev1, ev2, ev3, ev4, Nat.reduceLT, Nat.reduceLeDiff, Nat.reduceEqDiff, Nat.reduceAdd, Nat.reduceMul, Nat.reduceBEq, reduceCtorEq, len26, ix26, ld3, h1'] <;> rfl) (Nat.le_of_ble_eq_true rfl) ?_
    refine WL_endk (ks := [15]) (by simp only [ev0, ev4, Nat.reduceEqDiff] <;> rfl) ?_
    with_reducible repeat (first | refine n1 ?_ | refine n2 ?_ | refine n3 ?_ | refine n4 ?_ | refine n5 ?_ | refine n6 ?_ | refine n7 rfl ?_ | refine W_seq ?_ | refine W_block ?_ | refine W_skip ?_ | refine W_exit ?_ | refine W_ret ?_)
    refine W_true rfl ?_
    with_reducible repeat (first | refine n1 ?_ | refine n2 ?_ | refine n3 ?_ | refine n4 ?_ | refine n5 ?_ | refine n6 ?_ | refine n7 rfl ?_ | refine W_seq ?_ | refine W_block ?_ | refine W_skip ?_ | refine W_exit ?_ | refine W_ret ?_)
    refine W_go (by simp only [ev0, ev1, ev2, ev3, ev4, Nat.reduceLT, Nat.reduceLeDiff, Nat.reduceEqDiff, Nat.reduceAdd, Nat.reduceMul, Nat.reduceBEq, reduceCtorEq, len26, ix26, ld3] <;> rfl) (Nat.le_of_ble_eq_true rfl) ?_
    refine WL_endk (ks := [6]) (by simp only [ev0, ev4, Nat.reduceEqDiff] <;> rfl) ?_
    with_reducible repeat (first | refine n1 ?_ | refine n2 ?_ | refine n3 ?_ | refine n4 ?_ | refine n5 ?_ | refine n6 ?_ | refine n7 rfl ?_ | refine W_seq ?_ | refine W_block ?_ | refine W_skip ?_ | refine W_exit ?_ | refine W_ret ?_)
    refine Fin_pure [] _ (by first | exact .inl rfl | exact .inr rfl) rfl (by simp only [Tryd.results19, vres, vresL, vres1, one_, vload_eq, Option.map_some, ev0, ev3, ev4, Nat.reduceEqDiff, Nat.reduceAdd, Nat.reduceLeDiff] <;> rfl) rfl (by simp only [one_, rf_c, rf_any, rf_sl, rf_ptr, rf_fn, rf_agg, rf_tup, rf, List.map_cons, List.map_nil] <;> rfl) hk (by simp) ?_
    exact ⟨by simp [chkS, h1], rfl⟩
  cases h2 : inB off 1 16
  · have h1' := h1
    have h2' := h2
    unfold inB at h1' h2'
    refine W_go (by simp only [ev0, ev1, ev2, ev3, ev4, Nat.reduceLT, Nat.reduceLeDiff, Nat.reduceEqDiff, Nat.reduceAdd, Nat.reduceMul, Nat.reduceBEq, reduceCtorEq, len26, ix26, ld3] <;> rfl) (Nat.le_of_ble_eq_true rfl) ?_
    refine WL_end ?_
    with_reducible repeat (first | refine n1 ?_ | refine n2 ?_ | refine n3 ?_ | refine n4 ?_ | refine n5 ?_ | refine n6 ?_ | refine n7 rfl ?_ | refine W_seq ?_ | refine W_block ?_ | refine W_skip ?_ | refine W_exit ?_ | refine W_ret ?_)
    refine W_go (by simp only [ev0, ev1, ev2, ev3, ev4, Nat.reduceLT, Nat.reduceLeDiff, Nat.reduceEqDiff, Nat.reduceAdd, Nat.reduceMul, Nat.reduceBEq, reduceCtorEq, len26, ix26, ld3] <;> rfl) (Nat.le_of_ble_eq_true rfl) ?_
    refine WL_pure (f30_ok len 1 512 _) rfl (.inl rfl) (by simp only [ev0, ev1, ev2, ev3, ev4, Nat.reduceLT, Nat.reduceLeDiff, Nat.reduceEqDiff, Nat.reduceAdd, Nat.reduceMul, Nat.reduceBEq, reduceCtorEq, len26, ix26, ld3] <;> rfl) (by simp only [ev0, ev1, ev2, ev3, ev4, Nat.reduceLT, Nat.reduceLeDiff, Nat.reduceEqDiff, Nat.reduceAdd, Nat.reduceMul, Nat.reduceBEq, reduceCtorEq, len26, ix26, ld3] <;> rfl) rfl (by simp only [ev0, ev1, ev2, ev3, ev4, Nat.reduceLT, Nat.reduceLeDiff, Nat.reduceEqDiff, Nat.reduceAdd, Nat.reduceMul, Nat.reduceBEq, reduceCtorEq, len26, ix26, ld3] <;> rfl) ?_
    refine WL_go (by simp only [ev0, ev1, ev2, ev3, ev4, Nat.reduceLT, Nat.reduceLeDiff, Nat.reduceEqDiff, Nat.reduceAdd, Nat.reduceMul, Nat.reduceBEq, reduceCtorEq, len26, ix26, ld3, h1'] <;> rfl) (Nat.le_of_ble_eq_true rfl) ?_
    refine WL_pure (f30_ok off 1 16 _) rfl (Wants_at (j := 3) rfl rfl (by simp only [ev0, ev1, ev2, ev3, ev4, Nat.reduceLT, Nat.reduceLeDiff, Nat.reduceEqDiff, Nat.reduceAdd, Nat.reduceMul, Nat.reduceBEq, reduceCtorEq, len26, ix26, ld3, h1'] <;> rfl)) (by simp only [ev0, ev1, ev2, ev3, ev4, Nat.reduceLT, Nat.reduceLeDiff, Nat.reduceEqDiff, Nat.reduceAdd, Nat.reduceMul, Nat.reduceBEq, reduceCtorEq, len26, ix26, ld3, h1'] <;> rfl) (by simp only [ev0, ev1, ev2, ev3, ev4, Nat.reduceLT, Nat.reduceLeDiff, Nat.reduceEqDiff, Nat.reduceAdd, Nat.reduceMul, Nat.reduceBEq, reduceCtorEq, len26, ix26, ld3, h1'] <;> rfl) rfl (by simp only [ev0, ev1, ev2, ev3, ev4, Nat.reduceLT, Nat.reduceLeDiff, Nat.reduceEqDiff, Nat.reduceAdd, Nat.reduceMul, Nat.reduceBEq, reduceCtorEq, len26, ix26, ld3, h1'] <;> rfl) ?_
    refine WL_go (by simp only [ev0, ev1, ev2, ev3, ev4, Nat.reduceLT, Nat.reduceLeDiff, Nat.reduceEqDiff, Nat.reduceAdd, Nat.reduceMul, Nat.reduceBEq, reduceCtorEq, len26, ix26, ld3, h1', h2'] <;> rfl) (Nat.le_of_ble_eq_true rfl) ?_
    refine WL_endk (ks := [15]) (by simp only [ev0, ev4, Nat.reduceEqDiff] <;> rfl) ?_
    with_reducible repeat (first | refine n1 ?_ | refine n2 ?_ | refine n3 ?_ | refine n4 ?_ | refine n5 ?_ | refine n6 ?_ | refine n7 rfl ?_ | refine W_seq ?_ | refine W_block ?_ | refine W_skip ?_ | refine W_exit ?_ | refine W_ret ?_)
    refine W_true rfl ?_
    with_reducible repeat (first | refine n1 ?_ | refine n2 ?_ | refine n3 ?_ | refine n4 ?_ | refine n5 ?_ | refine n6 ?_ | refine n7 rfl ?_ | refine W_seq ?_ | refine W_block ?_ | refine W_skip ?_ | refine W_exit ?_ | refine W_ret ?_)
    refine W_go (by simp only [ev0, ev1, ev2, ev3, ev4, Nat.reduceLT, Nat.reduceLeDiff, Nat.reduceEqDiff, Nat.reduceAdd, Nat.reduceMul, Nat.reduceBEq, reduceCtorEq, len26, ix26, ld3] <;> rfl) (Nat.le_of_ble_eq_true rfl) ?_
    refine WL_endk (ks := [6]) (by simp only [ev0, ev4, Nat.reduceEqDiff] <;> rfl) ?_
    with_reducible repeat (first | refine n1 ?_ | refine n2 ?_ | refine n3 ?_ | refine n4 ?_ | refine n5 ?_ | refine n6 ?_ | refine n7 rfl ?_ | refine W_seq ?_ | refine W_block ?_ | refine W_skip ?_ | refine W_exit ?_ | refine W_ret ?_)
    refine Fin_pure [] _ (by first | exact .inl rfl | exact .inr rfl) rfl (by simp only [Tryd.results19, vres, vresL, vres1, one_, vload_eq, Option.map_some, ev0, ev3, ev4, Nat.reduceEqDiff, Nat.reduceAdd, Nat.reduceLeDiff] <;> rfl) rfl (by simp only [one_, rf_c, rf_any, rf_sl, rf_ptr, rf_fn, rf_agg, rf_tup, rf, List.map_cons, List.map_nil] <;> rfl) hk (by simp) ?_
    exact ⟨by simp [chkS, h1, h2], rfl⟩
  have h1' := h1
  have h2' := h2
  unfold inB at h1' h2'
  have ho : 0 ≤ off := by simp [inB] at h2; omega
  refine W_go (by simp only [ev0, ev1, ev2, ev3, ev4, Nat.reduceLT, Nat.reduceLeDiff, Nat.reduceEqDiff, Nat.reduceAdd, Nat.reduceMul, Nat.reduceBEq, reduceCtorEq, len26, ix26, ld3] <;> rfl) (Nat.le_of_ble_eq_true rfl) ?_
  refine WL_end ?_
  with_reducible repeat (first | refine n1 ?_ | refine n2 ?_ | refine n3 ?_ | refine n4 ?_ | refine n5 ?_ | refine n6 ?_ | refine n7 rfl ?_ | refine W_seq ?_ | refine W_block ?_ | refine W_skip ?_ | refine W_exit ?_ | refine W_ret ?_)
  refine W_go (by simp only [ev0, ev1, ev2, ev3, ev4, Nat.reduceLT, Nat.reduceLeDiff, Nat.reduceEqDiff, Nat.reduceAdd, Nat.reduceMul, Nat.reduceBEq, reduceCtorEq, len26, ix26, ld3] <;> rfl) (Nat.le_of_ble_eq_true rfl) ?_
  refine WL_pure (f30_ok len 1 512 _) rfl (.inl rfl) (by simp only [ev0, ev1, ev2, ev3, ev4, Nat.reduceLT, Nat.reduceLeDiff, Nat.reduceEqDiff, Nat.reduceAdd, Nat.reduceMul, Nat.reduceBEq, reduceCtorEq, len26, ix26, ld3] <;> rfl) (by simp only [ev0, ev1, ev2, ev3, ev4, Nat.reduceLT, Nat.reduceLeDiff, Nat.reduceEqDiff, Nat.reduceAdd, Nat.reduceMul, Nat.reduceBEq, reduceCtorEq, len26, ix26, ld3] <;> rfl) rfl (by simp only [ev0, ev1, ev2, ev3, ev4, Nat.reduceLT, Nat.reduceLeDiff, Nat.reduceEqDiff, Nat.reduceAdd, Nat.reduceMul, Nat.reduceBEq, reduceCtorEq, len26, ix26, ld3] <;> rfl) ?_
  refine WL_go (by simp only [ev0, ev1, ev2, ev3, ev4, Nat.reduceLT, Nat.reduceLeDiff, Nat.reduceEqDiff, Nat.reduceAdd, Nat.reduceMul, Nat.reduceBEq, reduceCtorEq, len26, ix26, ld3, h1'] <;> rfl) (Nat.le_of_ble_eq_true rfl) ?_
  refine WL_pure (f30_ok off 1 16 _) rfl (Wants_at (j := 3) rfl rfl (by simp only [ev0, ev1, ev2, ev3, ev4, Nat.reduceLT, Nat.reduceLeDiff, Nat.reduceEqDiff, Nat.reduceAdd, Nat.reduceMul, Nat.reduceBEq, reduceCtorEq, len26, ix26, ld3, h1'] <;> rfl)) (by simp only [ev0, ev1, ev2, ev3, ev4, Nat.reduceLT, Nat.reduceLeDiff, Nat.reduceEqDiff, Nat.reduceAdd, Nat.reduceMul, Nat.reduceBEq, reduceCtorEq, len26, ix26, ld3, h1'] <;> rfl) (by simp only [ev0, ev1, ev2, ev3, ev4, Nat.reduceLT, Nat.reduceLeDiff, Nat.reduceEqDiff, Nat.reduceAdd, Nat.reduceMul, Nat.reduceBEq, reduceCtorEq, len26, ix26, ld3, h1'] <;> rfl) rfl (by simp only [ev0, ev1, ev2, ev3, ev4, Nat.reduceLT, Nat.reduceLeDiff, Nat.reduceEqDiff, Nat.reduceAdd, Nat.reduceMul, Nat.reduceBEq, reduceCtorEq, len26, ix26, ld3, h1'] <;> rfl) ?_
  refine WL_go (by simp only [ev0, ev1, ev2, ev3, ev4, Nat.reduceLT, Nat.reduceLeDiff, Nat.reduceEqDiff, Nat.reduceAdd, Nat.reduceMul, Nat.reduceBEq, reduceCtorEq, len26, ix26, ld3, h1', h2'] <;> rfl) (Nat.le_of_ble_eq_true rfl) ?_
  refine WL_endk (ks := [0, 1, 2, 15]) (by simp only [ev0, ev4, Nat.reduceEqDiff] <;> rfl) ?_
  with_reducible repeat (first | refine n1 ?_ | refine n2 ?_ | refine n3 ?_ | refine n4 ?_ | refine n5 ?_ | refine n6 ?_ | refine n7 rfl ?_ | refine W_seq ?_ | refine W_block ?_ | refine W_skip ?_ | refine W_exit ?_ | refine W_ret ?_)
  refine W_false rfl ?_
  with_reducible repeat (first | refine n1 ?_ | refine n2 ?_ | refine n3 ?_ | refine n4 ?_ | refine n5 ?_ | refine n6 ?_ | refine n7 rfl ?_ | refine W_seq ?_ | refine W_block ?_ | refine W_skip ?_ | refine W_exit ?_ | refine W_ret ?_)
  by_cases hl : (xs.length : Int) = len
  · have hl' : ((xs.length : Int) != len) = false := by simp [hl]
    refine W_go (by simp only [ev0, ev1, ev2, ev3, ev4, Nat.reduceLT, Nat.reduceLeDiff, Nat.reduceEqDiff, Nat.reduceAdd, Nat.reduceMul, Nat.reduceBEq, reduceCtorEq, len26, ix26, ld3, hl'] <;> rfl) (Nat.le_of_ble_eq_true rfl) ?_
    refine WL_endk (ks := [0, 2, 19]) (by simp only [ev0, ev4, Nat.reduceEqDiff] <;> rfl) ?_
    with_reducible repeat (first | refine n1 ?_ | refine n2 ?_ | refine n3 ?_ | refine n4 ?_ | refine n5 ?_ | refine n6 ?_ | refine n7 rfl ?_ | refine W_seq ?_ | refine W_block ?_ | refine W_skip ?_ | refine W_exit ?_ | refine W_ret ?_)
    refine W_false rfl ?_
    with_reducible repeat (first | refine n1 ?_ | refine n2 ?_ | refine n3 ?_ | refine n4 ?_ | refine n5 ?_ | refine n6 ?_ | refine n7 rfl ?_ | refine W_seq ?_ | refine W_block ?_ | refine W_skip ?_ | refine W_exit ?_ | refine W_ret ?_)
    refine W_go (by simp only [ev0, ev1, ev2, ev3, ev4, Nat.reduceLT, Nat.reduceLeDiff, Nat.reduceEqDiff, Nat.reduceAdd, Nat.reduceMul, Nat.reduceBEq, reduceCtorEq, len26, ix26, ld3] <;> rfl) (Nat.le_of_ble_eq_true rfl) ?_
    refine WL_endk (ks := [0, 2, 7]) (by simp only [ev0, ev4, Nat.reduceEqDiff] <;> rfl) ?_
    with_reducible repeat (first | refine n1 ?_ | refine n2 ?_ | refine n3 ?_ | refine n4 ?_ | refine n5 ?_ | refine n6 ?_ | refine n7 rfl ?_ | refine W_seq ?_ | refine W_block ?_ | refine W_skip ?_ | refine W_exit ?_ | refine W_ret ?_)
    refine W_loopS (fun k : Nat => ⟨35, [(0, .sl 1 (xs.map iv)), (2, .c (.int .i64 off)), (7, .c (.int .i64 k))], h ++ [], []⟩) (fun k => k ≤ xs.length ∧ xs.any (outM off) = (xs.drop k).any (outM off)) (fun k => xs.length - k) 0 (by simp) rfl (fun k hI => ?_)
    with_reducible repeat (first | refine n1 ?_ | refine n2 ?_ | refine n3 ?_ | refine n4 ?_ | refine n5 ?_ | refine n6 ?_ | refine n7 rfl ?_ | refine W_seq ?_ | refine W_block ?_ | refine W_skip ?_ | refine W_exit ?_ | refine W_ret ?_)
    refine W_go (by simp only [ev0, ev1, ev2, ev3, ev4, Nat.reduceLT, Nat.reduceLeDiff, Nat.reduceEqDiff, Nat.reduceAdd, Nat.reduceMul, Nat.reduceBEq, reduceCtorEq, len26, ix26, ld3] <;> rfl) (Nat.le_of_ble_eq_true rfl) ?_
    refine WL_end ?_
    with_reducible repeat (first | refine n1 ?_ | refine n2 ?_ | refine n3 ?_ | refine n4 ?_ | refine n5 ?_ | refine n6 ?_ | refine n7 rfl ?_ | refine W_seq ?_ | refine W_block ?_ | refine W_skip ?_ | refine W_exit ?_ | refine W_ret ?_)
    refine W_cond rfl (fun hb => ?_) (fun hb => ?_)
    · with_reducible repeat (first | refine n1 ?_ | refine n2 ?_ | refine n3 ?_ | refine n4 ?_ | refine n5 ?_ | refine n6 ?_ | refine n7 rfl ?_ | refine W_seq ?_ | refine W_block ?_ | refine W_skip ?_ | refine W_exit ?_ | refine W_ret ?_)
      have hlt : k < xs.length := by simpa using hb
      have hx := map_get (f := iv) hlt
      refine W_draw (by kernel_rfl) (DR_go (by simp only [ev0, ev1, ev2, ev3, ev4, Nat.reduceLT, Nat.reduceLeDiff, Nat.reduceEqDiff, Nat.reduceAdd, Nat.reduceMul, Nat.reduceBEq, reduceCtorEq, len26, ix26, ld3, hx, iv, ho] <;> rfl) (DR_pure (f30_ok xs[k] 0 (IntKind.i64.wrap (ishl .i64 1 off - 1)) _) rfl (.inl rfl) (by simp only [ev0, ev1, ev2, ev3, ev4, Nat.reduceLT, Nat.reduceLeDiff, Nat.reduceEqDiff, Nat.reduceAdd, Nat.reduceMul, Nat.reduceBEq, reduceCtorEq, len26, ix26, ld3] <;> rfl) (by simp only [ev0, ev1, ev2, ev3, ev4, Nat.reduceLT, Nat.reduceLeDiff, Nat.reduceEqDiff, Nat.reduceAdd, Nat.reduceMul, Nat.reduceBEq, reduceCtorEq, len26, ix26, ld3] <;> rfl) (by simp only [ev0, ev1, ev2, ev3, ev4, Nat.reduceLT, Nat.reduceLeDiff, Nat.reduceEqDiff, Nat.reduceAdd, Nat.reduceMul, Nat.reduceBEq, reduceCtorEq, len26, ix26, ld3] <;> rfl) (DR_end (by simp only [ev0, ev1, ev2, ev3, ev4, Nat.reduceLT, Nat.reduceLeDiff, Nat.reduceEqDiff, Nat.reduceAdd, Nat.reduceMul, Nat.reduceBEq, reduceCtorEq, len26, ix26, ld3] <;> rfl)))) (by kernel_rfl) (by first | exact trivial | kernel_rfl) ?_
      with_reducible repeat (first | refine n1 ?_ | refine n2 ?_ | refine n3 ?_ | refine n4 ?_ | refine n5 ?_ | refine n6 ?_ | refine n7 rfl ?_ | refine W_seq ?_ | refine W_block ?_ | refine W_skip ?_ | refine W_exit ?_ | refine W_ret ?_)
      refine W_keep' (ks := [0, 2, 7, 34]) (by simp only [ev0, ev4, Nat.reduceEqDiff] <;> rfl) ?_
      refine W_cond rfl (fun hp => ?_) (fun hp => ?_)
      · with_reducible repeat (first | refine n1 ?_ | refine n2 ?_ | refine n3 ?_ | refine n4 ?_ | refine n5 ?_ | refine n6 ?_ | refine n7 rfl ?_ | refine W_seq ?_ | refine W_block ?_ | refine W_skip ?_ | refine W_exit ?_ | refine W_ret ?_)
        refine W_go (by simp only [ev0, ev1, ev2, ev3, ev4, Nat.reduceLT, Nat.reduceLeDiff, Nat.reduceEqDiff, Nat.reduceAdd, Nat.reduceMul, Nat.reduceBEq, reduceCtorEq, len26, ix26, ld3] <;> rfl) (Nat.le_of_ble_eq_true rfl) ?_
        refine WL_endk (ks := [6]) (by simp only [ev0, ev4, Nat.reduceEqDiff] <;> rfl) ?_
        with_reducible repeat (first | refine n1 ?_ | refine n2 ?_ | refine n3 ?_ | refine n4 ?_ | refine n5 ?_ | refine n6 ?_ | refine n7 rfl ?_ | refine W_seq ?_ | refine W_block ?_ | refine W_skip ?_ | refine W_exit ?_ | refine W_ret ?_)
        refine Fin_pure [] _ (by first | exact .inl rfl | exact .inr rfl) rfl (by simp only [Tryd.results19, vres, vresL, vres1, one_, vload_eq, Option.map_some, ev0, ev3, ev4, Nat.reduceEqDiff, Nat.reduceAdd, Nat.reduceLeDiff] <;> rfl) rfl (by simp only [one_, rf_c, rf_any, rf_sl, rf_ptr, rf_fn, rf_agg, rf_tup, rf, List.map_cons, List.map_nil] <;> rfl) hk (by simp) ?_
        have e : xs.any (outM off) = true := by rw [hI.2, any_drop _ hlt]; simp only [outM, inB]; rw [hp]; rfl
        exact ⟨by simp [chkS, h1, h2, hl, e], rfl⟩
      · with_reducible repeat (first | refine n1 ?_ | refine n2 ?_ | refine n3 ?_ | refine n4 ?_ | refine n5 ?_ | refine n6 ?_ | refine n7 rfl ?_ | refine W_seq ?_ | refine W_block ?_ | refine W_skip ?_ | refine W_exit ?_ | refine W_ret ?_)
        refine W_go (by simp only [ev0, ev1, ev2, ev3, ev4, Nat.reduceLT, Nat.reduceLeDiff, Nat.reduceEqDiff, Nat.reduceAdd, Nat.reduceMul, Nat.reduceBEq, reduceCtorEq, len26, ix26, ld3] <;> rfl) (Nat.le_of_ble_eq_true rfl) ?_
        refine WL_endk (ks := [0, 2, 7]) (by simp only [ev0, ev4, Nat.reduceEqDiff] <;> rfl) ?_
        with_reducible repeat (first | refine n1 ?_ | refine n2 ?_ | refine n3 ?_ | refine n4 ?_ | refine n5 ?_ | refine n6 ?_ | refine n7 rfl ?_ | refine W_seq ?_ | refine W_block ?_ | refine W_skip ?_ | refine W_exit ?_ | refine W_ret ?_)
        exact ⟨k + 1, by rw [wrap64 (by omega) (by omega)]; rfl, ⟨by omega, by rw [hI.2, any_drop _ hlt]; simp only [outM, inB]; rw [hp]; rfl⟩, by omega⟩
    · with_reducible repeat (first | refine n1 ?_ | refine n2 ?_ | refine n3 ?_ | refine n4 ?_ | refine n5 ?_ | refine n6 ?_ | refine n7 rfl ?_ | refine W_seq ?_ | refine W_block ?_ | refine W_skip ?_ | refine W_exit ?_ | refine W_ret ?_)
      refine W_go (by simp only [ev0, ev1, ev2, ev3, ev4, Nat.reduceLT, Nat.reduceLeDiff, Nat.reduceEqDiff, Nat.reduceAdd, Nat.reduceMul, Nat.reduceBEq, reduceCtorEq, len26, ix26, ld3] <;> rfl) (Nat.le_of_ble_eq_true rfl) ?_
      refine WL_endk (ks := [6]) (by simp only [ev0, ev4, Nat.reduceEqDiff] <;> rfl) ?_
      with_reducible repeat (first | refine n1 ?_ | refine n2 ?_ | refine n3 ?_ | refine n4 ?_ | refine n5 ?_ | refine n6 ?_ | refine n7 rfl ?_ | refine W_seq ?_ | refine W_block ?_ | refine W_skip ?_ | refine W_exit ?_ | refine W_ret ?_)
      refine Fin_pure [] _ (by first | exact .inl rfl | exact .inr rfl) rfl (by simp only [Tryd.results19, vres, vresL, vres1, one_, vload_eq, Option.map_some, ev0, ev3, ev4, Nat.reduceEqDiff, Nat.reduceAdd, Nat.reduceLeDiff] <;> rfl) rfl (by simp only [one_, rf_c, rf_any, rf_sl, rf_ptr, rf_fn, rf_agg, rf_tup, rf, List.map_cons, List.map_nil] <;> rfl) hk (by simp) ?_
      have hge : xs.length ≤ k := by simpa using hb
      have e : xs.any (outM off) = false := by rw [hI.2, List.drop_of_length_le hge]; rfl
      exact ⟨by simp [chkS, h1, h2, hl, e], rfl⟩
  · have hl' : ((xs.length : Int) != len) = true := by simp [hl]
    refine W_go (by simp only [ev0, ev1, ev2, ev3, ev4, Nat.reduceLT, Nat.reduceLeDiff, Nat.reduceEqDiff, Nat.reduceAdd, Nat.reduceMul, Nat.reduceBEq, reduceCtorEq, len26, ix26, ld3, hl'] <;> rfl) (Nat.le_of_ble_eq_true rfl) ?_
    refine WL_endk (ks := [0, 2, 19]) (by simp only [ev0, ev4, Nat.reduceEqDiff] <;> rfl) ?_
    with_reducible repeat (first | refine n1 ?_ | refine n2 ?_ | refine n3 ?_ | refine n4 ?_ | refine n5 ?_ | refine n6 ?_ | refine n7 rfl ?_ | refine W_seq ?_ | refine W_block ?_ | refine W_skip ?_ | refine W_exit ?_ | refine W_ret ?_)
    refine W_true rfl ?_
    with_reducible repeat (first | refine n1 ?_ | refine n2 ?_ | refine n3 ?_ | refine n4 ?_ | refine n5 ?_ | refine n6 ?_ | refine n7 rfl ?_ | refine W_seq ?_ | refine W_block ?_ | refine W_skip ?_ | refine W_exit ?_ | refine W_ret ?_)
    refine W_go (by simp only [ev0, ev1, ev2, ev3, ev4, Nat.reduceLT, Nat.reduceLeDiff, Nat.reduceEqDiff, Nat.reduceAdd, Nat.reduceMul, Nat.reduceBEq, reduceCtorEq, len26, ix26, ld3] <;> rfl) (Nat.le_of_ble_eq_true rfl) ?_
    refine WL_endk (ks := [6]) (by simp only [ev0, ev4, Nat.reduceEqDiff] <;> rfl) ?_
    with_reducible repeat (first | refine n1 ?_ | refine n2 ?_ | refine n3 ?_ | refine n4 ?_ | refine n5 ?_ | refine n6 ?_ | refine n7 rfl ?_ | refine W_seq ?_ | refine W_block ?_ | refine W_skip ?_ | refine W_exit ?_ | refine W_ret ?_)
    refine Fin_pure [] _ (by first | exact .inl rfl | exact .inr rfl) rfl (by simp only [Tryd.results19, vres, vresL, vres1, one_, vload_eq, Option.map_some, ev0, ev3, ev4, Nat.reduceEqDiff, Nat.reduceAdd, Nat.reduceLeDiff] <;> rfl) rfl (by simp only [one_, rf_c, rf_any, rf_sl, rf_ptr, rf_fn, rf_agg, rf_tup, rf, List.map_cons, List.map_nil] <;> rfl) hk (by simp) ?_
    exact ⟨by simp [chkS, h1, h2, hl], rfl⟩
end Go.Vm
/- Contracts: counting what is free. -/
namespace Go.Vm
open Go Go.RowKit Go.Proofs
set_option linter.unusedSimpArgs false
set_option linter.unusedVariables false

def bitS (m : Int) (k : Nat) : Int := iand .i64 (ishr .i64 m k) 1
theorem bitS_bound (m : Int) (k : Nat) : 0 ≤ bitS m k ∧ bitS m k ≤ 1 := by
  unfold bitS iand
  have h : (BitVec.ofInt IntKind.i64.bits (ishr .i64 m k) &&& BitVec.ofInt IntKind.i64.bits 1).toNat ≤ 1 := by
    rw [BitVec.toNat_and]
    exact Nat.and_le_right
  generalize (BitVec.ofInt IntKind.i64.bits (ishr .i64 m k) &&& BitVec.ofInt IntKind.i64.bits 1).toNat = n at h
  rw [wrap64 (by omega) (by omega)]
  omega
def sumN (f : Nat → Int) : Nat → Int
  | 0 => 0
  | k + 1 => sumN f k + f k
theorem sumN_bound {f : Nat → Int} {b : Int} (h : ∀ j, 0 ≤ f j ∧ f j ≤ b) : ∀ k : Nat, 0 ≤ sumN f k ∧ sumN f k ≤ k * b
  | 0 => by simp [sumN]
  | k + 1 => by
    have h1 := sumN_bound h k
    have h2 := h k
    simp only [sumN]
    have : ((k + 1 : Nat) : Int) * b = k * b + b := by push_cast; rw [Int.add_mul, Int.one_mul]
    omega
def rowS (m : Int) : Int := sumN (bitS m) 16
def cntS (xs : List Int) : Int := (xs.map rowS).sum
def colS (xs : List Int) (j : Nat) : Int := (xs.map fun x => bitS x j).sum
theorem colS_bound : ∀ (xs : List Int) (j : Nat), 0 ≤ colS xs j ∧ colS xs j ≤ xs.length
  | [], j => by simp [colS]
  | x :: xs, j => by
    have h1 := colS_bound xs j
    have h2 := bitS_bound x j
    simp only [colS, List.map_cons, List.sum_cons, List.length_cons] at *
    push_cast
    omega
theorem rowS_bound (m : Int) : 0 ≤ rowS m ∧ rowS m ≤ 16 := by
  have := sumN_bound (bitS_bound m) 16
  simp only [rowS]; omega
theorem cntS_bound : ∀ (xs : List Int), 0 ≤ cntS xs ∧ cntS xs ≤ 16 * xs.length
  | [] => by simp [cntS]
  | x :: xs => by
    have h1 := cntS_bound xs
    have h2 := rowS_bound x
    simp only [cntS, List.map_cons, List.sum_cons, List.length_cons] at *
    push_cast
    omega
theorem sumN_add (f g : Nat → Int) : ∀ k, sumN (fun j => f j + g j) k = sumN f k + sumN g k
  | 0 => rfl
  | k + 1 => by simp only [sumN]; rw [sumN_add f g k]; omega
theorem sumN_zero : ∀ k, sumN (fun _ => 0) k = 0
  | 0 => rfl
  | k + 1 => by simp only [sumN]; rw [sumN_zero k]; rfl
theorem sum_cols : ∀ (xs : List Int), sumN (colS xs) 16 = cntS xs
  | [] => sumN_zero 16
  | x :: xs => by
    have e : colS (x :: xs) = fun j => bitS x j + colS xs j := by funext j; simp [colS]
    rw [e, sumN_add, sum_cols xs]
    simp [cntS, rowS]
theorem take_get {α : Type} {xs : List α} {i : Nat} (h : i < xs.length) : xs.take (i + 1) = xs.take i ++ [xs[i]] := by simp
theorem cntS_take {xs : List Int} {i : Nat} (h : i < xs.length) : cntS (xs.take (i + 1)) = cntS (xs.take i) + rowS xs[i] := by
  rw [take_get h]; simp only [cntS, List.map_append, List.sum_append, List.map_cons, List.map_nil, List.sum_cons, List.sum_nil, Int.add_zero]
theorem colS_take {xs : List Int} {i : Nat} (h : i < xs.length) (j : Nat) : colS (xs.take (i + 1)) j = colS (xs.take i) j + bitS xs[i] j := by
  rw [take_get h]; simp only [colS, List.map_append, List.sum_append, List.map_cons, List.map_nil, List.sum_cons, List.sum_nil, Int.add_zero]
/-- How many offsets are free. -/
def cnt (xs : List Int) : Int := if 512 < xs.length ∨ xs.any (fun m => !inB m 0 65535) = true then 0 else cntS xs

theorem f21_ok {G} (xs : List Int) (h : Hp) (hlen : xs.length < 4611686018427387904) : VPure Tryd.prog G (.fn 21 []) [.sl 1 (xs.map iv)] h (.c (.int .i64 (cnt xs))) := by
  refine VCall_fn' (tdOf_ok _) Tryd.func21 rfl (by rfl) 34 rfl (by simp) (by simp only [ents, List.cons_append, List.nil_append, List.append_nil] <;> rfl) (fun hk ha hc => ?_)
  with_reducible repeat (first | refine n1 ?_ | refine n2 ?_ | refine n3 ?_ | refine n4 ?_ | refine n5 ?_ | refine n6 ?_ | refine n7 rfl ?_ | refine W_seq ?_ | refine W_block ?_ | refine W_skip ?_ | refine W_exit ?_ | refine W_ret ?_)
  by_cases hl : 512 < xs.length
  · have hl' : decide ((xs.length : Int) > 512) = true := by simp; omega
    refine W_go (by simp only [ev0, ev1, ev2, ev3, ev4, Nat.reduceLT, Nat.reduceLeDiff, Nat.reduceEqDiff, Nat.reduceAdd, Nat.reduceMul, Nat.reduceBEq, reduceCtorEq, len26, ix26, ld3] <;> rfl) (Nat.le_of_ble_eq_true rfl) ?_
    refine WL_end ?_
    with_reducible repeat (first | refine n1 ?_ | refine n2 ?_ | refine n3 ?_ | refine n4 ?_ | refine n5 ?_ | refine n6 ?_ | refine n7 rfl ?_ | refine W_seq ?_ | refine W_block ?_ | refine W_skip ?_ | refine W_exit ?_ | refine W_ret ?_)
    refine W_go (by simp only [ev0, ev1, ev2, ev3, ev4, Nat.reduceLT, Nat.reduceLeDiff, Nat.reduceEqDiff, Nat.reduceAdd, Nat.reduceMul, Nat.reduceBEq, reduceCtorEq, len26, ix26, ld3, hl'] <;> rfl) (Nat.le_of_ble_eq_true rfl) ?_
    refine WL_endk (ks := [13]) (by simp only [ev0, ev4, Nat.reduceEqDiff] <;> rfl) ?_
    with_reducible repeat (first | refine n1 ?_ | refine n2 ?_ | refine n3 ?_ | refine n4 ?_ | refine n5 ?_ | refine n6 ?_ | refine n7 rfl ?_ | refine W_seq ?_ | refine W_block ?_ | refine W_skip ?_ | refine W_exit ?_ | refine W_ret ?_)
    refine W_true rfl ?_
    with_reducible repeat (first | refine n1 ?_ | refine n2 ?_ | refine n3 ?_ | refine n4 ?_ | refine n5 ?_ | refine n6 ?_ | refine n7 rfl ?_ | refine W_seq ?_ | refine W_block ?_ | refine W_skip ?_ | refine W_exit ?_ | refine W_ret ?_)
    refine W_go (by simp only [ev0, ev1, ev2, ev3, ev4, Nat.reduceLT, Nat.reduceLeDiff, Nat.reduceEqDiff, Nat.reduceAdd, Nat.reduceMul, Nat.reduceBEq, reduceCtorEq, len26, ix26, ld3] <;> rfl) (Nat.le_of_ble_eq_true rfl) ?_
    refine WL_endk (ks := [2]) (by simp only [ev0, ev4, Nat.reduceEqDiff] <;> rfl) ?_
    with_reducible repeat (first | refine n1 ?_ | refine n2 ?_ | refine n3 ?_ | refine n4 ?_ | refine n5 ?_ | refine n6 ?_ | refine n7 rfl ?_ | refine W_seq ?_ | refine W_block ?_ | refine W_skip ?_ | refine W_exit ?_ | refine W_ret ?_)
    refine Fin_pure [] _ (by first | exact .inl rfl | exact .inr rfl) rfl (by simp only [Tryd.results21, vres, vresL, vres1, one_, vload_eq, Option.map_some, ev0, ev3, ev4, Nat.reduceEqDiff, Nat.reduceAdd, Nat.reduceLeDiff] <;> rfl) rfl (by simp only [one_, rf_c, rf_any, rf_sl, rf_ptr, rf_fn, rf_agg, rf_tup, rf, List.map_cons, List.map_nil] <;> rfl) hk (by simp) ?_
    exact ⟨by simp [cnt, hl], rfl⟩
  have hl' : decide ((xs.length : Int) > 512) = false := by simp; omega
  refine W_go (by simp only [ev0, ev1, ev2, ev3, ev4, Nat.reduceLT, Nat.reduceLeDiff, Nat.reduceEqDiff, Nat.reduceAdd, Nat.reduceMul, Nat.reduceBEq, reduceCtorEq, len26, ix26, ld3] <;> rfl) (Nat.le_of_ble_eq_true rfl) ?_
  refine WL_end ?_
  with_reducible repeat (first | refine n1 ?_ | refine n2 ?_ | refine n3 ?_ | refine n4 ?_ | refine n5 ?_ | refine n6 ?_ | refine n7 rfl ?_ | refine W_seq ?_ | refine W_block ?_ | refine W_skip ?_ | refine W_exit ?_ | refine W_ret ?_)
  refine W_go (by simp only [ev0, ev1, ev2, ev3, ev4, Nat.reduceLT, Nat.reduceLeDiff, Nat.reduceEqDiff, Nat.reduceAdd, Nat.reduceMul, Nat.reduceBEq, reduceCtorEq, len26, ix26, ld3, hl'] <;> rfl) (Nat.le_of_ble_eq_true rfl) ?_
  refine WL_pure (f38_ok xs _ hlen) rfl (Wants_at (j := 3) rfl rfl (by simp only [ev0, ev1, ev2, ev3, ev4, Nat.reduceLT, Nat.reduceLeDiff, Nat.reduceEqDiff, Nat.reduceAdd, Nat.reduceMul, Nat.reduceBEq, reduceCtorEq, len26, ix26, ld3, hl'] <;> rfl)) (by simp only [ev0, ev1, ev2, ev3, ev4, Nat.reduceLT, Nat.reduceLeDiff, Nat.reduceEqDiff, Nat.reduceAdd, Nat.reduceMul, Nat.reduceBEq, reduceCtorEq, len26, ix26, ld3, hl'] <;> rfl) (by simp only [ev0, ev1, ev2, ev3, ev4, Nat.reduceLT, Nat.reduceLeDiff, Nat.reduceEqDiff, Nat.reduceAdd, Nat.reduceMul, Nat.reduceBEq, reduceCtorEq, len26, ix26, ld3, hl'] <;> rfl) rfl (by simp only [ev0, ev1, ev2, ev3, ev4, Nat.reduceLT, Nat.reduceLeDiff, Nat.reduceEqDiff, Nat.reduceAdd, Nat.reduceMul, Nat.reduceBEq, reduceCtorEq, len26, ix26, ld3, hl'] <;> rfl) ?_
  refine WL_go (by simp only [ev0, ev1, ev2, ev3, ev4, Nat.reduceLT, Nat.reduceLeDiff, Nat.reduceEqDiff, Nat.reduceAdd, Nat.reduceMul, Nat.reduceBEq, reduceCtorEq, len26, ix26, ld3, hl'] <;> rfl) (Nat.le_of_ble_eq_true rfl) ?_
  refine WL_endk (ks := [0, 13]) (by simp only [ev0, ev4, Nat.reduceEqDiff] <;> rfl) ?_
  with_reducible repeat (first | refine n1 ?_ | refine n2 ?_ | refine n3 ?_ | refine n4 ?_ | refine n5 ?_ | refine n6 ?_ | refine n7 rfl ?_ | refine W_seq ?_ | refine W_block ?_ | refine W_skip ?_ | refine W_exit ?_ | refine W_ret ?_)
  refine W_cond rfl (fun hp => ?_) (fun hp => ?_)
  · with_reducible repeat (first | refine n1 ?_ | refine n2 ?_ | refine n3 ?_ | refine n4 ?_ | refine n5 ?_ | refine n6 ?_ | refine n7 rfl ?_ | refine W_seq ?_ | refine W_block ?_ | refine W_skip ?_ | refine W_exit ?_ | refine W_ret ?_)
    refine W_go (by simp only [ev0, ev1, ev2, ev3, ev4, Nat.reduceLT, Nat.reduceLeDiff, Nat.reduceEqDiff, Nat.reduceAdd, Nat.reduceMul, Nat.reduceBEq, reduceCtorEq, len26, ix26, ld3] <;> rfl) (Nat.le_of_ble_eq_true rfl) ?_
    refine WL_endk (ks := [2]) (by simp only [ev0, ev4, Nat.reduceEqDiff] <;> rfl) ?_
    with_reducible repeat (first | refine n1 ?_ | refine n2 ?_ | refine n3 ?_ | refine n4 ?_ | refine n5 ?_ | refine n6 ?_ | refine n7 rfl ?_ | refine W_seq ?_ | refine W_block ?_ | refine W_skip ?_ | refine W_exit ?_ | refine W_ret ?_)
    refine Fin_pure [] _ (by first | exact .inl rfl | exact .inr rfl) rfl (by simp only [Tryd.results21, vres, vresL, vres1, one_, vload_eq, Option.map_some, ev0, ev3, ev4, Nat.reduceEqDiff, Nat.reduceAdd, Nat.reduceLeDiff] <;> rfl) rfl (by simp only [one_, rf_c, rf_any, rf_sl, rf_ptr, rf_fn, rf_agg, rf_tup, rf, List.map_cons, List.map_nil] <;> rfl) hk (by simp) ?_
    exact ⟨by have e : xs.any (fun m => !inB m 0 65535) = true := by simpa using hp
              simp only [cnt, e, or_true, if_true], rfl⟩
  have e0 : xs.any (fun m => !inB m 0 65535) = false := by simpa using hp
  with_reducible repeat (first | refine n1 ?_ | refine n2 ?_ | refine n3 ?_ | refine n4 ?_ | refine n5 ?_ | refine n6 ?_ | refine n7 rfl ?_ | refine W_seq ?_ | refine W_block ?_ | refine W_skip ?_ | refine W_exit ?_ | refine W_ret ?_)
  refine W_go (by simp only [ev0, ev1, ev2, ev3, ev4, Nat.reduceLT, Nat.reduceLeDiff, Nat.reduceEqDiff, Nat.reduceAdd, Nat.reduceMul, Nat.reduceBEq, reduceCtorEq, len26, ix26, ld3] <;> rfl) (Nat.le_of_ble_eq_true rfl) ?_
  refine WL_end ?_
  with_reducible repeat (first | refine n1 ?_ | refine n2 ?_ | refine n3 ?_ | refine n4 ?_ | refine n5 ?_ | refine n6 ?_ | refine n7 rfl ?_ | refine W_seq ?_ | refine W_block ?_ | refine W_skip ?_ | refine W_exit ?_ | refine W_ret ?_)
  refine W_go (by simp only [ev0, ev1, ev2, ev3, ev4, Nat.reduceLT, Nat.reduceLeDiff, Nat.reduceEqDiff, Nat.reduceAdd, Nat.reduceMul, Nat.reduceBEq, reduceCtorEq, len26, ix26, ld3] <;> rfl) (Nat.le_of_ble_eq_true rfl) ?_
  refine WL_endk (ks := [0, 3, 4]) (by simp only [ev0, ev4, Nat.reduceEqDiff] <;> rfl) ?_
  with_reducible repeat (first | refine n1 ?_ | refine n2 ?_ | refine n3 ?_ | refine n4 ?_ | refine n5 ?_ | refine n6 ?_ | refine n7 rfl ?_ | refine W_seq ?_ | refine W_block ?_ | refine W_skip ?_ | refine W_exit ?_ | refine W_ret ?_)
  refine W_loopS (fun i : Nat => ⟨34, [(0, .sl 1 (xs.map iv)), (3, .c (.int .i64 (cntS (xs.take i)))), (4, .c (.int .i64 i))], h ++ [], []⟩) (fun i => i ≤ xs.length) (fun i => xs.length - i) 0 (by simp) rfl (fun i hI => ?_)
  with_reducible repeat (first | refine n1 ?_ | refine n2 ?_ | refine n3 ?_ | refine n4 ?_ | refine n5 ?_ | refine n6 ?_ | refine n7 rfl ?_ | refine W_seq ?_ | refine W_block ?_ | refine W_skip ?_ | refine W_exit ?_ | refine W_ret ?_)
  refine W_go (by simp only [ev0, ev1, ev2, ev3, ev4, Nat.reduceLT, Nat.reduceLeDiff, Nat.reduceEqDiff, Nat.reduceAdd, Nat.reduceMul, Nat.reduceBEq, reduceCtorEq, len26, ix26, ld3] <;> rfl) (Nat.le_of_ble_eq_true rfl) ?_
  refine WL_end ?_
  with_reducible repeat (first | refine n1 ?_ | refine n2 ?_ | refine n3 ?_ | refine n4 ?_ | refine n5 ?_ | refine n6 ?_ | refine n7 rfl ?_ | refine W_seq ?_ | refine W_block ?_ | refine W_skip ?_ | refine W_exit ?_ | refine W_ret ?_)
  refine W_cond rfl (fun hb => ?_) (fun hb => ?_)
  · with_reducible repeat (first | refine n1 ?_ | refine n2 ?_ | refine n3 ?_ | refine n4 ?_ | refine n5 ?_ | refine n6 ?_ | refine n7 rfl ?_ | refine W_seq ?_ | refine W_block ?_ | refine W_skip ?_ | refine W_exit ?_ | refine W_ret ?_)
    have hlt : i < xs.length := by simpa using hb
    have hx := map_get (f := iv) hlt
    refine W_go (by simp only [ev0, ev1, ev2, ev3, ev4, Nat.reduceLT, Nat.reduceLeDiff, Nat.reduceEqDiff, Nat.reduceAdd, Nat.reduceMul, Nat.reduceBEq, reduceCtorEq, len26, ix26, ld3] <;> rfl) (Nat.le_of_ble_eq_true rfl) ?_
    refine WL_endk (ks := [0, 3, 4, 5]) (by simp only [ev0, ev4, Nat.reduceEqDiff] <;> rfl) ?_
    with_reducible repeat (first | refine n1 ?_ | refine n2 ?_ | refine n3 ?_ | refine n4 ?_ | refine n5 ?_ | refine n6 ?_ | refine n7 rfl ?_ | refine W_seq ?_ | refine W_block ?_ | refine W_skip ?_ | refine W_exit ?_ | refine W_ret ?_)
    refine W_loopS (fun k : Nat => ⟨34, [(0, .sl 1 (xs.map iv)), (3, .c (.int .i64 (cntS (xs.take i) + sumN (bitS xs[i]) k))), (4, .c (.int .i64 i)), (5, .c (.int .i64 k))], h ++ [], []⟩) (fun k => k ≤ 16) (fun k => 16 - k) 0 (by simp) (by simp [sumN]) (fun k hK => ?_)
    with_reducible repeat (first | refine n1 ?_ | refine n2 ?_ | refine n3 ?_ | refine n4 ?_ | refine n5 ?_ | refine n6 ?_ | refine n7 rfl ?_ | refine W_seq ?_ | refine W_block ?_ | refine W_skip ?_ | refine W_exit ?_ | refine W_ret ?_)
    refine W_go (by simp only [ev0, ev1, ev2, ev3, ev4, Nat.reduceLT, Nat.reduceLeDiff, Nat.reduceEqDiff, Nat.reduceAdd, Nat.reduceMul, Nat.reduceBEq, reduceCtorEq, len26, ix26, ld3] <;> rfl) (Nat.le_of_ble_eq_true rfl) ?_
    refine WL_end ?_
    with_reducible repeat (first | refine n1 ?_ | refine n2 ?_ | refine n3 ?_ | refine n4 ?_ | refine n5 ?_ | refine n6 ?_ | refine n7 rfl ?_ | refine W_seq ?_ | refine W_block ?_ | refine W_skip ?_ | refine W_exit ?_ | refine W_ret ?_)
    refine W_cond rfl (fun hb => ?_) (fun hb => ?_)
    · have hk16 : k < 16 := by
        have : (k : Int) < 16 := by simpa using hb
        omega
      have hk0 : (0 : Int) ≤ (k : Int) := by omega
      with_reducible repeat (first | refine n1 ?_ | refine n2 ?_ | refine n3 ?_ | refine n4 ?_ | refine n5 ?_ | refine n6 ?_ | refine n7 rfl ?_ | refine W_seq ?_ | refine W_block ?_ | refine W_skip ?_ | refine W_exit ?_ | refine W_ret ?_)
      refine W_go (by simp only [ev0, ev1, ev2, ev3, ev4, Nat.reduceLT, Nat.reduceLeDiff, Nat.reduceEqDiff, Nat.reduceAdd, Nat.reduceMul, Nat.reduceBEq, reduceCtorEq, len26, ix26, ld3, hx, iv, hk0] <;> rfl) (Nat.le_of_ble_eq_true rfl) ?_
      refine WL_endk (ks := [0, 3, 4, 5]) (by simp only [ev0, ev4, Nat.reduceEqDiff] <;> rfl) ?_
      with_reducible repeat (first | refine n1 ?_ | refine n2 ?_ | refine n3 ?_ | refine n4 ?_ | refine n5 ?_ | refine n6 ?_ | refine n7 rfl ?_ | refine W_seq ?_ | refine W_block ?_ | refine W_skip ?_ | refine W_exit ?_ | refine W_ret ?_)
      refine W_go (by simp only [ev0, ev1, ev2, ev3, ev4, Nat.reduceLT, Nat.reduceLeDiff, Nat.reduceEqDiff, Nat.reduceAdd, Nat.reduceMul, Nat.reduceBEq, reduceCtorEq, len26, ix26, ld3] <;> rfl) (Nat.le_of_ble_eq_true rfl) ?_
      refine WL_endk (ks := [0, 3, 4, 5]) (by simp only [ev0, ev4, Nat.reduceEqDiff] <;> rfl) ?_
      with_reducible repeat (first | refine n1 ?_ | refine n2 ?_ | refine n3 ?_ | refine n4 ?_ | refine n5 ?_ | refine n6 ?_ | refine n7 rfl ?_ | refine W_seq ?_ | refine W_block ?_ | refine W_skip ?_ | refine W_exit ?_ | refine W_ret ?_)
      have b1 := cntS_bound (xs.take i)
      have b2 := sumN_bound (bitS_bound xs[i]) k
      have b3 := bitS_bound xs[i] k
      have b4 : (xs.take i).length ≤ 512 := by simp; omega
      have b5 : bitS xs[i] k = iand .i64 (ishr .i64 xs[i] k) 1 := rfl
      exact ⟨k + 1, by rw [wrap64 (n := (k : Int) + 1) (by omega) (by omega), ← b5, wrap64 (by omega) (by omega)]; simp only [sumN, Int.add_assoc]; rfl, by omega, by omega⟩
    · with_reducible repeat (first | refine n1 ?_ | refine n2 ?_ | refine n3 ?_ | refine n4 ?_ | refine n5 ?_ | refine n6 ?_ | refine n7 rfl ?_ | refine W_seq ?_ | refine W_block ?_ | refine W_skip ?_ | refine W_exit ?_ | refine W_ret ?_)
      have hk16 : k = 16 := by
        have : (16 : Int) ≤ k := by simpa using hb
        omega
      refine W_go (by simp only [ev0, ev1, ev2, ev3, ev4, Nat.reduceLT, Nat.reduceLeDiff, Nat.reduceEqDiff, Nat.reduceAdd, Nat.reduceMul, Nat.reduceBEq, reduceCtorEq, len26, ix26, ld3] <;> rfl) (Nat.le_of_ble_eq_true rfl) ?_
      refine WL_endk (ks := [0, 3, 4]) (by simp only [ev0, ev4, Nat.reduceEqDiff] <;> rfl) ?_
      with_reducible repeat (first | refine n1 ?_ | refine n2 ?_ | refine n3 ?_ | refine n4 ?_ | refine n5 ?_ | refine n6 ?_ | refine n7 rfl ?_ | refine W_seq ?_ | refine W_block ?_ | refine W_skip ?_ | refine W_exit ?_ | refine W_ret ?_)
      exact ⟨i + 1, by rw [wrap64 (by omega) (by omega), cntS_take hlt, hk16]; rfl, by omega, by omega⟩
  · with_reducible repeat (first | refine n1 ?_ | refine n2 ?_ | refine n3 ?_ | refine n4 ?_ | refine n5 ?_ | refine n6 ?_ | refine n7 rfl ?_ | refine W_seq ?_ | refine W_block ?_ | refine W_skip ?_ | refine W_exit ?_ | refine W_ret ?_)
    have hge : xs.length ≤ i := by simpa using hb
    refine W_go (by simp only [ev0, ev1, ev2, ev3, ev4, Nat.reduceLT, Nat.reduceLeDiff, Nat.reduceEqDiff, Nat.reduceAdd, Nat.reduceMul, Nat.reduceBEq, reduceCtorEq, len26, ix26, ld3] <;> rfl) (Nat.le_of_ble_eq_true rfl) ?_
    refine WL_endk (ks := [2]) (by simp only [ev0, ev4, Nat.reduceEqDiff] <;> rfl) ?_
    with_reducible repeat (first | refine n1 ?_ | refine n2 ?_ | refine n3 ?_ | refine n4 ?_ | refine n5 ?_ | refine n6 ?_ | refine n7 rfl ?_ | refine W_seq ?_ | refine W_block ?_ | refine W_skip ?_ | refine W_exit ?_ | refine W_ret ?_)
    refine Fin_pure [] _ (by first | exact .inl rfl | exact .inr rfl) rfl (by simp only [Tryd.results21, vres, vresL, vres1, one_, vload_eq, Option.map_some, ev0, ev3, ev4, Nat.reduceEqDiff, Nat.reduceAdd, Nat.reduceLeDiff] <;> rfl) rfl (by simp only [one_, rf_c, rf_any, rf_sl, rf_ptr, rf_fn, rf_agg, rf_tup, rf, List.map_cons, List.map_nil] <;> rfl) hk (by simp) ?_
    exact ⟨by rw [List.take_of_length_le hge]; simp [cnt, e0, hl], rfl⟩
end Go.Vm
