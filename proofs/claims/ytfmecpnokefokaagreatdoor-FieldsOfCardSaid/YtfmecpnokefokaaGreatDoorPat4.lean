/-
  The walks of layer 16 (pattern): the reference's classes. Conditions: texts of at most 2^40 bytes.
-/
import Derived.Shelf.Strings.Builder1
import Derived.Shelf.Small.Strs
import Derived.Shelf.Small.Wraps
import Derived.Shelf.Strings.BuilderF
import Derived.Shelf.Strings.BuilderK
import Derived.Shelf.Strconv.Itoa0
import Derived.Shelf.Strconv.Itoa1
import Derived.Shelf.LaysM
import Derived.Shelf.Strconv.Itoa2
import Derived.Shelf.Strconv.Itoa3
import Derived.Shelf.Strings.Search1
import Derived.Shelf.Strings.Search2
import Derived.Shelf.Strings.Search3
import Derived.Shelf.Strings.Shaped
import Derived.Shelf.Strings.Prefix
import Derived.Shelf.Strings.BuilderCap
import Derived.Test.YtfmecpnokefokaaGreatDoorProg
import Derived.Test.YtfmecpnokefokaaGreatDoorPatA
set_option linter.unusedSimpArgs false
set_option linter.unusedVariables false
namespace Go.Proofs.YtfmecpnokefokaaGreatDoor
open Go.Shelf
def Tryz.lays169_ren:Go.Shelf.Ren:=⟨fun|169=>43|n=>n,fun|70=>72|9=>9|0=>0|72=>74|37=>42|127=>121|3=>3|5=>5|n=>n,fun|n=>n⟩
theorem Tryz.lays169:Go.Proofs.Lays.n169 Tryz.prog Tryz.lays169_ren:={
 mixed:=by kernel_rfl
 f169:=Tryz.func43.trans (congrArg some (by kernel_rfl))
 t0:=Tryz.underlying0
 a0:=Tryz.isAgg0
 z0:=Tryz.sizeOf0
 v0:=Tryz.zeroValue0
 t3:=Tryz.underlying3
 a3:=Tryz.isAgg3
 z3:=Tryz.sizeOf3
 v3:=Tryz.zeroValue3
 t9:=Tryz.underlying9
 a9:=Tryz.isAgg9
 z9:=Tryz.sizeOf9
 v9:=Tryz.zeroValue9
 t37:=Tryz.underlying42
 a37:=Tryz.isAgg42
 z37:=Tryz.sizeOf42
 v37:=Tryz.zeroValue42
 t70:=Tryz.underlying72
 a70:=Tryz.isAgg72
 z70:=Tryz.sizeOf72
 v70:=Tryz.zeroValue72
 t72:=Tryz.underlying74
 a72:=Tryz.isAgg74
 z72:=Tryz.sizeOf74
 v72:=Tryz.zeroValue74
 t127:=Tryz.underlying121
 a127:=Tryz.isAgg121
 z127:=Tryz.sizeOf121
 v127:=Tryz.zeroValue121 }
theorem Tryz.Builder_Extra_169:Builder.Extra Tryz.prog Tryz.lays169_ren:={
 sizeBuilder:=by kernel_rfl
 liesBuilder:=by kernel_rfl
 t5:=Tryz.underlying5
 a5:=Tryz.isAgg5
 z5:=Tryz.sizeOf5
 v5:=Tryz.zeroValue5
 infoByte:=by kernel_rfl
 cellsByte:=by kernel_rfl
 sizeByte:=by kernel_rfl
 neB5:=by decide }
open Go.RowKit in
theorem Tryz.Builder_String_any (B b:Nat) (l:List UInt8) (w:World) (h:Lib.IsBuilder 74 5 B b (Lib.byteCells l) w) (hBw:B≤w.heap.size) :
  Calls Tryz.prog 43 #[.pointer (some ⟨b,0,none⟩)] w fun e w'=>e = .returned (.string ⟨l.toArray⟩)∧Below B w w':=Any.Builder_String_any Tryz.lays169 Tryz.Builder_Extra_169 B b l w h hBw
def Tryz.lays106_ren:Go.Shelf.Ren:=⟨fun|106=>96|213=>128|265=>154|n=>n,fun|9=>9|3=>3|n=>n,fun|n=>n⟩
theorem Tryz.lays106:Go.Proofs.Lays.n106 Tryz.prog Tryz.lays106_ren:={
 mixed:=by kernel_rfl
 f106:=Tryz.func96.trans (congrArg some (by kernel_rfl))
 f213:=Tryz.func128.trans (congrArg some (by kernel_rfl))
 f265:=Tryz.func154.trans (congrArg some (by kernel_rfl))
 t3:=Tryz.underlying3
 a3:=Tryz.isAgg3
 z3:=Tryz.sizeOf3
 v3:=Tryz.zeroValue3
 t9:=Tryz.underlying9
 a9:=Tryz.isAgg9
 z9:=Tryz.sizeOf9
 v9:=Tryz.zeroValue9 }
open Go.RowKit in
theorem Tryz.strings_Compare (a b:ByteArray) (w:World) :
  Calls Tryz.prog 96 #[.string a,.string b] w fun e w'=>e = .returned (.int .i64 (Lib.compareBytes a.data.toList b.data.toList))∧w'=w:=Any.strings_Compare Tryz.lays106 a b w
def Tryz.lays103_ren:Go.Shelf.Ren:=⟨fun|103=>150|210=>170|206=>122|n=>n,fun|9=>9|4=>4|24=>47|3=>3|n=>n,fun|n=>n⟩
theorem Tryz.lays103:Go.Proofs.Lays.n103 Tryz.prog Tryz.lays103_ren:={
 mixed:=by kernel_rfl
 f103:=Tryz.func150.trans (congrArg some (by kernel_rfl))
 f206:=Tryz.func122.trans (congrArg some (by kernel_rfl))
 f210:=Tryz.func170.trans (congrArg some (by kernel_rfl))
 t3:=Tryz.underlying3
 a3:=Tryz.isAgg3
 z3:=Tryz.sizeOf3
 v3:=Tryz.zeroValue3
 t4:=Tryz.underlying4
 a4:=Tryz.isAgg4
 z4:=Tryz.sizeOf4
 v4:=Tryz.zeroValue4
 t9:=Tryz.underlying9
 a9:=Tryz.isAgg9
 z9:=Tryz.sizeOf9
 v9:=Tryz.zeroValue9
 t24:=Tryz.underlying47
 a24:=Tryz.isAgg47
 z24:=Tryz.sizeOf47
 v24:=Tryz.zeroValue47 }
open Go.RowKit in
theorem Tryz.strings_CutPrefix (s p:ByteArray) (w:World) :
  Calls Tryz.prog 150 #[.string s,.string p] w fun e w'=>e = .returned (.tuple #[.string ⟨(Lib.trimPrefix s.data.toList p.data.toList).toArray⟩,.bool (Lib.hasPrefix s.data.toList p.data.toList)])∧w'=w:=Any.strings_CutPrefix Tryz.lays103 s p w
def Tryz.lays171_ren:Go.Shelf.Ren:=⟨fun|171=>123|243=>148|246=>169|283=>178|284=>179|285=>180|286=>181|129=>186|317=>185|318=>187|319=>188|320=>189|337=>194|338=>195|n=>n,fun|3=>3|9=>9|2=>2|4=>4|171=>220|0=>0|53=>159|37=>42|5=>5|173=>223|212=>229|51=>230|20=>20|213=>231|46=>165|232=>241|233=>242|n=>n,fun|17=>1|18=>2|19=>3|n=>n⟩
theorem Tryz.lays171:Go.Proofs.Lays.n171 Tryz.prog Tryz.lays171_ren:={
 mixed:=by kernel_rfl
 f129:=Tryz.func186.trans (congrArg some (by kernel_rfl))
 f171:=Tryz.func123.trans (congrArg some (by kernel_rfl))
 f243:=Tryz.func148.trans (congrArg some (by kernel_rfl))
 f246:=Tryz.func169.trans (congrArg some (by kernel_rfl))
 f283:=Tryz.func178.trans (congrArg some (by kernel_rfl))
 f284:=Tryz.func179.trans (congrArg some (by kernel_rfl))
 f285:=Tryz.func180.trans (congrArg some (by kernel_rfl))
 f286:=Tryz.func181.trans (congrArg some (by kernel_rfl))
 f317:=Tryz.func185.trans (congrArg some (by kernel_rfl))
 f318:=Tryz.func187.trans (congrArg some (by kernel_rfl))
 f319:=Tryz.func188.trans (congrArg some (by kernel_rfl))
 f320:=Tryz.func189.trans (congrArg some (by kernel_rfl))
 f337:=Tryz.func194.trans (congrArg some (by kernel_rfl))
 f338:=Tryz.func195.trans (congrArg some (by kernel_rfl))
 t0:=Tryz.underlying0
 a0:=Tryz.isAgg0
 z0:=Tryz.sizeOf0
 v0:=Tryz.zeroValue0
 t2:=Tryz.underlying2
 a2:=Tryz.isAgg2
 z2:=Tryz.sizeOf2
 v2:=Tryz.zeroValue2
 t3:=Tryz.underlying3
 a3:=Tryz.isAgg3
 z3:=Tryz.sizeOf3
 v3:=Tryz.zeroValue3
 t4:=Tryz.underlying4
 a4:=Tryz.isAgg4
 z4:=Tryz.sizeOf4
 v4:=Tryz.zeroValue4
 t5:=Tryz.underlying5
 a5:=Tryz.isAgg5
 z5:=Tryz.sizeOf5
 v5:=Tryz.zeroValue5
 t9:=Tryz.underlying9
 a9:=Tryz.isAgg9
 z9:=Tryz.sizeOf9
 v9:=Tryz.zeroValue9
 t20:=Tryz.underlying20
 a20:=Tryz.isAgg20
 z20:=Tryz.sizeOf20
 v20:=Tryz.zeroValue20
 t37:=Tryz.underlying42
 a37:=Tryz.isAgg42
 z37:=Tryz.sizeOf42
 v37:=Tryz.zeroValue42
 t46:=Tryz.underlying165
 a46:=Tryz.isAgg165
 z46:=Tryz.sizeOf165
 v46:=Tryz.zeroValue165
 t51:=Tryz.underlying230
 a51:=Tryz.isAgg230
 z51:=Tryz.sizeOf230
 v51:=Tryz.zeroValue230
 t53:=Tryz.underlying159
 a53:=Tryz.isAgg159
 z53:=Tryz.sizeOf159
 v53:=Tryz.zeroValue159
 t171:=Tryz.underlying220
 a171:=Tryz.isAgg220
 z171:=Tryz.sizeOf220
 v171:=Tryz.zeroValue220
 t173:=Tryz.underlying223
 a173:=Tryz.isAgg223
 z173:=Tryz.sizeOf223
 v173:=Tryz.zeroValue223
 t212:=Tryz.underlying229
 a212:=Tryz.isAgg229
 z212:=Tryz.sizeOf229
 v212:=Tryz.zeroValue229
 t213:=Tryz.underlying231
 a213:=Tryz.isAgg231
 z213:=Tryz.sizeOf231
 t232:=Tryz.underlying241
 a232:=Tryz.isAgg241
 z232:=Tryz.sizeOf241
 v232:=Tryz.zeroValue241
 t233:=Tryz.underlying242
 a233:=Tryz.isAgg242
 z233:=Tryz.sizeOf242
 v233:=Tryz.zeroValue242
 g17:=by kernel_rfl
 g18:=by kernel_rfl
 g19:=by kernel_rfl }
open Go.RowKit Go.Sort Go.Lib in
theorem Tryz.strconv_Itoa_small (i:Nat) (hi:i<100) (w:World) :
  Calls Tryz.prog 123 #[.int .i64 i] w fun e w'=>e = .returned (.string ⟨(Lib.decDigits i).toArray⟩)∧w'=w:=Any.strconv_Itoa_small Tryz.lays171 i hi w
def Tryz.lays143_ren:Go.Shelf.Ren:=⟨fun|143=>201|219=>203|217=>119|225=>206|224=>207|267=>208|266=>144|314=>209|n=>n,fun|9=>9|3=>3|4=>4|5=>5|46=>165|146=>250|51=>230|n=>n,fun|1=>0|n=>n⟩
theorem Tryz.lays143:Go.Proofs.Lays.n143 Tryz.prog Tryz.lays143_ren:={
 mixed:=by kernel_rfl
 f143:=Tryz.func201.trans (congrArg some (by kernel_rfl))
 f217:=Tryz.func119.trans (congrArg some (by kernel_rfl))
 f219:=Tryz.func203.trans (congrArg some (by kernel_rfl))
 f224:=Tryz.func207.trans (congrArg some (by kernel_rfl))
 f225:=Tryz.func206.trans (congrArg some (by kernel_rfl))
 f266:=Tryz.func144.trans (congrArg some (by kernel_rfl))
 f267:=Tryz.func208.trans (congrArg some (by kernel_rfl))
 f314:=Tryz.func209.trans (congrArg some (by kernel_rfl))
 t3:=Tryz.underlying3
 a3:=Tryz.isAgg3
 z3:=Tryz.sizeOf3
 v3:=Tryz.zeroValue3
 t4:=Tryz.underlying4
 a4:=Tryz.isAgg4
 z4:=Tryz.sizeOf4
 v4:=Tryz.zeroValue4
 t5:=Tryz.underlying5
 a5:=Tryz.isAgg5
 z5:=Tryz.sizeOf5
 v5:=Tryz.zeroValue5
 t9:=Tryz.underlying9
 a9:=Tryz.isAgg9
 z9:=Tryz.sizeOf9
 v9:=Tryz.zeroValue9
 t46:=Tryz.underlying165
 a46:=Tryz.isAgg165
 z46:=Tryz.sizeOf165
 v46:=Tryz.zeroValue165
 t51:=Tryz.underlying230
 a51:=Tryz.isAgg230
 z51:=Tryz.sizeOf230
 v51:=Tryz.zeroValue230
 t146:=Tryz.underlying250
 a146:=Tryz.isAgg250
 z146:=Tryz.sizeOf250
 v146:=Tryz.zeroValue250
 g1:=by kernel_rfl }
open Go.RowKit Go.Lib in
theorem Tryz.strings_Index (s sub:ByteArray) (m:Int) (w:World) (hs:s.size<4294967281) (hm:w.cell? ⟨0,0,none⟩=some (.int .i64 m)) :
  Calls Tryz.prog 201 #[.string s,.string sub] w fun e w'=>e = .returned (.int .i64 (Lib.index s.data.toList sub.data.toList))∧w'=w:=Any.strings_Index Tryz.lays143 s sub m w hs hm
def Tryz.lays99_ren:Go.Shelf.Ren:=⟨fun|99=>89|206=>122|n=>n,fun|9=>9|4=>4|3=>3|n=>n,fun|n=>n⟩
theorem Tryz.lays99:Go.Proofs.Lays.n99 Tryz.prog Tryz.lays99_ren:={
 mixed:=by kernel_rfl
 f99:=Tryz.func89.trans (congrArg some (by kernel_rfl))
 f206:=Tryz.func122.trans (congrArg some (by kernel_rfl))
 t3:=Tryz.underlying3
 a3:=Tryz.isAgg3
 z3:=Tryz.sizeOf3
 v3:=Tryz.zeroValue3
 t4:=Tryz.underlying4
 a4:=Tryz.isAgg4
 z4:=Tryz.sizeOf4
 v4:=Tryz.zeroValue4
 t9:=Tryz.underlying9
 a9:=Tryz.isAgg9
 z9:=Tryz.sizeOf9
 v9:=Tryz.zeroValue9 }
open Go.RowKit Go.Lib in
theorem Tryz.strings_HasPrefix (s p:ByteArray) (w:World) :
  Calls Tryz.prog 89 #[.string s,.string p] w fun e w'=>e = .returned (.bool (Lib.hasPrefix s.data.toList p.data.toList))∧w'=w:=Any.strings_HasPrefix Tryz.lays99 s p w
def Tryz.lays100_ren:Go.Shelf.Ren:=⟨fun|100=>151|207=>171|n=>n,fun|9=>9|4=>4|3=>3|n=>n,fun|n=>n⟩
theorem Tryz.lays100:Go.Proofs.Lays.n100 Tryz.prog Tryz.lays100_ren:={
 mixed:=by kernel_rfl
 f100:=Tryz.func151.trans (congrArg some (by kernel_rfl))
 f207:=Tryz.func171.trans (congrArg some (by kernel_rfl))
 t3:=Tryz.underlying3
 a3:=Tryz.isAgg3
 z3:=Tryz.sizeOf3
 v3:=Tryz.zeroValue3
 t4:=Tryz.underlying4
 a4:=Tryz.isAgg4
 z4:=Tryz.sizeOf4
 v4:=Tryz.zeroValue4
 t9:=Tryz.underlying9
 a9:=Tryz.isAgg9
 z9:=Tryz.sizeOf9
 v9:=Tryz.zeroValue9 }
open Go.RowKit Go.Lib in
theorem Tryz.strings_HasSuffix (s p:ByteArray) (w:World) (hs:s.size≤9223372036854775807) :
  Calls Tryz.prog 151 #[.string s,.string p] w fun e w'=>e = .returned (.bool (Lib.hasSuffix s.data.toList p.data.toList))∧w'=w:=Any.strings_HasSuffix Tryz.lays100 s p w hs
end Go.Proofs.YtfmecpnokefokaaGreatDoor
namespace Go.Proofs.YtfmecpnokefokaaGreatDoor.Pat
open Go.ChangeShapes Go.WideShapes Go.Deep Go.RowKit
set_option maxRecDepth 100000
theorem u8_ne {x y:UInt8} (h:¬ x=y):(((x.toNat:Nat):Int) == ((y.toNat:Nat):Int))=false:=by
 rw [beq_eq_false_iff_ne];intro e;exact h (UInt8.toNat_inj.1 (by omega))
theorem in_any (b:UInt8) (s:List UInt8) (w:World) (hs:s.length≤4294967296):Calls Tryz.prog 54 #[.int .u8 b.toNat,.string (B s)] w fun e w'=>e = .returned (.bool (s.contains b))∧w=w':=by
 obtain ⟨r,hr⟩:∃ r,r=s.contains b:=⟨_,rfl⟩
 rw [← hr];have HRR:=Lib.hid hr;clear hr;go_enter Tryz.func54,Tryz.ntmps54;go_wp2
 go_loop [5] (fun i=>∃ k:Nat,k≤s.length∧i = .int .i64 k∧Hid ((s.take k).contains b=false)) (fun i=>s.length - (intOf i).toNat)
 case atStart=>exact ⟨0,by omega,rfl,rfl⟩
 case round =>
  obtain ⟨k,hk,rfl,HR⟩:=hrel;by_cases hlt:k<s.length
  ·have HT:=Lib.hid (show s.take (k+1)=s.take k++[s[k]] by rw [List.take_succ_eq_append_getElem hlt])
   have HM:=Lib.hid (List.getElem_mem hlt);by_cases hx:s[k]=b
   ·have HX:=Lib.hid hx
    have hx':((s[k].toNat:Int) == (b.toNat:Int))=true:=by rw [hx];simp
    clear hx;go_wp2;go_ret;refine ⟨?_,rfl⟩;have:s.contains b=true:=by rw [List.contains_iff_mem,← HX.out];exact HM.out
    rw [HRR.out,this];rfl
   ·have hx':=u8_ne hx
    have HX:=Lib.hid hx;clear hx;go_wp2
    go_round
    case rel=>exact ⟨k+1,by omega,by go_num,by
     show _=false
     rw [HT.out,List.contains_append,HR.out,Bool.false_or]
     simpa using fun e=>HX.out e.symm⟩
    case measure=>simp [intOf];omega
  ·have hk':k=s.length:=by omega
   have h:=HR.out;rw [hk',List.take_length] at h;have H:=Lib.hid h;clear h HR hk';go_wp2;go_ret;exact ⟨by rw [HRR.out,H.out];rfl,rfl⟩
theorem zit {b:UInt8} {lo hi:Int} (h1:lo≤(b.toNat:Int)) (h2:(b.toNat:Int)≤hi):Value.bool true = .bool (btw b lo hi):=by rw [btw_mk (yes h1) (yes h2)];rfl
theorem ziu {b:UInt8} {lo hi:Int} (h1:¬ lo≤(b.toNat:Int)):Value.bool false = .bool (btw b lo hi):=by rw [btw_mk (no h1) rfl];rfl
theorem ziv {b:UInt8} {lo hi:Int} (h1:¬ (b.toNat:Int)≤hi):Value.bool false = .bool (btw b lo hi):=by
 unfold btw;rw [no h1,Bool.and_false]
theorem alpha_eq (b:UInt8):(alnumB b && decide (57<(b.toNat:Int)))=(btw b 65 90 || btw b 97 122):=by
 have h:∀ n:Fin 256,(alnumB (UInt8.ofNat n.val) && decide (57<((UInt8.ofNat n.val).toNat:Int)))=(btw (UInt8.ofNat n.val) 65 90 || btw (UInt8.ofNat n.val) 97 122):=by decide +kernel
 have:=h ⟨b.toNat,b.toNat_lt⟩
 simpa using this
theorem e33 (b:UInt8):btw b 33 126=(decide (33≤(b.toNat:Int)) && decide ((b.toNat:Int)≤126)):=rfl
theorem e32 (b:UInt8):btw b 32 126=(decide (32≤(b.toNat:Int)) && decide ((b.toNat:Int)≤126)):=rfl
theorem e9 (b:UInt8):btw b 9 13=(decide (9≤(b.toNat:Int)) && decide ((b.toNat:Int)≤13)):=rfl
set_option maxHeartbeats 3200000 in
theorem of_any (name:List UInt8) (b:UInt8) (w:World):Calls Tryz.prog 161 #[.string (B name),.int .u8 b.toNat] w fun e w'=>e = .returned (.bool (inCls name b))∧w=w':=by
 have HIN:=Lib.hid fun w=>in_any b [65,66,67,68,69,70,97,98,99,100,101,102] w (by decide);rw [hex_in] at HIN;go_enter Tryz.func161,Tryz.ntmps161;go_upto_region 1 with (fail)
 go_cut [5] (fun s5 w'=>s5 = .bool (btw b 65 90)∧w'=w)
 case first =>
  go_wp2
  all_goals
   go_meet
   first|exact ⟨ziu (by omega),rfl⟩|exact ⟨ziv (by omega),rfl⟩|exact ⟨zit (by omega) (by omega),rfl⟩|(refine ⟨?_,rfl⟩;unfold btw;simp [*];done)
 case rest =>
 obtain ⟨rfl,rfl⟩:=hcut;go_upto_region 2 with (fail)
 go_cut [6] (fun s5 w'=>s5 = .bool (btw b 97 122)∧w'=wc)
 case first =>
  go_wp2
  all_goals
   go_meet
   first|exact ⟨ziu (by omega),rfl⟩|exact ⟨ziv (by omega),rfl⟩|exact ⟨zit (by omega) (by omega),rfl⟩|(refine ⟨?_,rfl⟩;unfold btw;simp [*];done)
 case rest =>
 obtain ⟨rfl,rfl⟩:=hcut;go_upto_region 3 with (fail)
 go_cut [7] (fun s5 w'=>s5 = .bool (btw b 48 57)∧w'=wc)
 case first =>
  go_wp2
  all_goals
   go_meet
   first|exact ⟨ziu (by omega),rfl⟩|exact ⟨ziv (by omega),rfl⟩|exact ⟨zit (by omega) (by omega),rfl⟩|(refine ⟨?_,rfl⟩;unfold btw;simp [*];done)
 case rest =>
 obtain ⟨rfl,rfl⟩:=hcut
 go_wp2_with (go_at_call 54;refine (HIN.out _).mono ?_;rintro e w' ⟨rfl,rfl⟩)
 all_goals
  go_ret;refine ⟨ret_b ?_,rfl⟩
  first|(simp [inCls,clsOf,nUpper,nLower,nAlpha,alpha_eq, *];done)|simp [inCls,clsOf,nUpper,nLower,nAlpha,nDigit,nAlnum,nXdigit,nBlank,nSpace,nCntrl,nPrint,nGraph,nPunct,alnumB,e33,e32,e9, *] <;> omega
end Go.Proofs.YtfmecpnokefokaaGreatDoor.Pat
