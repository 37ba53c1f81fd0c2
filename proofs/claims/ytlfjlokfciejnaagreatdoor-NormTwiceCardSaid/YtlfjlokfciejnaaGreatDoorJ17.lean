/- Texts of ours, joined and written short by a program of ours. -/
import Derived.Test.YtlfjlokfciejnaaGreatDoorJ15
set_option maxRecDepth 20000
set_option maxHeartbeats 4000000
set_option linter.all false
namespace Go.Gr
open Go.Abs Go.Proofs
def zmG:MC:=(fun x(_:x=gC tt [] [] [] (gB Tryz.f7))=>x) _ (by dsimp[Tryz.f7])
def zwy:WT Pg 7 55 zmG [.tmp 0]:=wT zaa Tryz.func7 (by kernel_rfl)
def zg9:MC:=(fun x(_:x=gC tt [] [(12,[0,1,0,7,15,31,0,64,0,448,960,1984,4095,8191])] [] (gLb 0 (gB Tryz.f5)))=>x) _ (by dsimp[Tryz.f5])
def ziB:MC:=(fun x(_:x=gC tt [] [] [(0,zg9)] (gB Tryz.f5))=>x) _ (by dsimp[Tryz.f5])
def zqi:WT Pg 5 65 ziB [.tmp 2]:=wT zaa Tryz.func5 (by kernel_rfl)
def zgD:MC:=(fun x(_:x=gC tt [] [(8,[0,1,0,0,8,0,56,120,248,0,1016,2047,4095,8191])] [] (gLb 0 (gB Tryz.f9)))=>x) _ (by dsimp[Tryz.f9])
def zmH:MC:=(fun x(_:x=gC tt [(0,2),(3,9),(4,32)] [] [(0,zgD)] (gB Tryz.f9))=>x) _ (by dsimp[Tryz.f9])
def zwz:WT Pg 9 33 zmH [.cell 4 true 3]:=wT zaa Tryz.func9 (by kernel_rfl)
def zmI:MC:=(fun x(_:x=gC tt [] [(3,[0,1,3,7,0,16,48,112,0,256,768,1792,4095,0,8192,24576,57344,131071,262143])] [] (gB Tryz.f19))=>x) _ (by dsimp[Tryz.f19])
def zwA:WT Pg 19 25 zmI [.cell 2 true 8]:=wT zaa Tryz.func19 (by kernel_rfl)
def zlH:MC:=(fun x(_:x=gC tt [(0,1)] [(4,[0,1,3,7,0,16,48,112,0,0,783,2047]),(6,[0,1,3,7,0,31,0,64,192,448,63,2047])] [] (gB Tryz.f20))=>x) _ (by dsimp[Tryz.f20])
def zuB:WT Pg 20 39 zlH [.cell 2 true 8]:=wT zaa Tryz.func20 (by kernel_rfl)
def zjZ:MC:=(fun x(_:x=gC tt [] [(5,[0,1,0,0,0,24,63,127])] [] (gLb 0 (gB Tryz.f21)))=>x) _ (by dsimp[Tryz.f21])
def zmJ:MC:=(fun x(_:x=gC tt [(0,2),(3,9),(4,28)] [] [(0,zjZ)] (gB Tryz.f21))=>x) _ (by dsimp[Tryz.f21])
def zwB:WT Pg 21 30 zmJ [.cell 4 true 8]:=wT zaa Tryz.func21 (by kernel_rfl)
def zqj:MC:=(fun x(_:x=gC tt [] [] [] (gB Tryz.f35))=>x) _ (by dsimp[Tryz.f35])
def zAF:WT Pg 35 10 zqj [.cell 4 true 8]:=wT zaa Tryz.func35 (by kernel_rfl)
def zb8:MC:=(fun x(_:x=gC tt [] [(3,[0,0,3,7])] [] (gB Tryz.f38))=>x) _ (by dsimp[Tryz.f38])
def zwC:WT Pg 38 40 zb8 [.tmp 4]:=wT zaa Tryz.func38 (by kernel_rfl)
def zj0:MC:=(fun x(_:x=gC tt [] [] [] (gB Tryz.f36))=>x) _ (by dsimp[Tryz.f36])
def zta:WT Pg 36 28 zj0 [.cell 6 true 5]:=wT zaa Tryz.func36 (by kernel_rfl)
def ziC:MC:=(fun x(_:x=gC tt [] [] [] (gB Tryz.f61))=>x) _ (by dsimp[Tryz.f61])
def zqk:WT Pg 61 17 ziC [.tmp 2]:=wT zaa Tryz.func61 (by kernel_rfl)
def zfr:MC:=(fun x(_:x=gC tt [(3,75),(3,84),(4,85)] [(13,[0,1,3,7,0,16,48,112,0,256,1023,0,2048,6144,14336,0,32768,98304,229376,0,1048575,2097151])] [] (gLb 0 (gB Tryz.f62)))=>x) _ (by dsimp[Tryz.f62])
def zgE:MC:=(fun x(_:x=gC tt [(3,15)] [] [(0,zfr)] (gB Tryz.f62))=>x) _ (by dsimp[Tryz.f62])
def ztb:WT Pg 62 87 zgE [.cell 6 true 5]:=wT zaa Tryz.func62 (by kernel_rfl)
def zeL:MC:=(fun x(_:x=gC tt [] [] [] (gB Tryz.f98))=>x) _ (by dsimp[Tryz.f98])
def zhu:WT Pg 98 30 zeL [.cell 4 true 4,.tmp 5,.tmp 6]:=wT zaa Tryz.func98 (by kernel_rfl)
def zhz:MC:=(fun x(_:x=gC tt [] [] [] (gB Tryz.f97))=>x) _ (by dsimp[Tryz.f97])
def zo1:WT Pg 97 6 zhz [.tmp 2]:=wT zaa Tryz.func97 (by kernel_rfl)
def zew:MC:=(fun x(_:x=gC tt [] [] [] (gLb 0 (gB Tryz.f100)))=>x) _ (by dsimp[Tryz.f100])
def zex:MC:=(fun x(_:x=gC tt [] [(15,[0,0,0,4,0,28,60,0,128,0,896,1920,0,8188,16383])] [] (gLb 2 (gB Tryz.f100)))=>x) _ (by dsimp[Tryz.f100])
def ziD:MC:=(fun x(_:x=gC tt [(5,39),(3,97),(4,97)] [] [(0,zew),(2,zex)] (gB Tryz.f100))=>x) _ (by dsimp[Tryz.f100])
def zo2:WM Pg 100 98 ziD []:=wM zaa Tryz.func100 (by kernel_rfl)
def zf3:MC:=(fun x(_:x=gC tt [(1,1)] [] [] (gB Tryz.f66))=>x) _ (by dsimp[Tryz.f66])
def zwD:WT Pg 66 3 zf3 [.cell 0 true 5]:=wT zaa Tryz.func66 (by kernel_rfl)
def zuC:WM Pg 66 3 zf3 [.cell 0 true 5]:=wM zaa Tryz.func66 (by kernel_rfl)
def zj1:MC:=(fun x(_:x=gC tt [] [(1,[0,0,3,7])] [] (gB Tryz.f102))=>x) _ (by dsimp[Tryz.f102])
def ztc:WT Pg 102 6 zj1 [.tmp 2]:=wT zaa Tryz.func102 (by kernel_rfl)
def zhA:MC:=(fun x(_:x=gC tt [] [] [] (gB Tryz.f37))=>x) _ (by dsimp[Tryz.f37])
def zo3:WT Pg 37 17 zhA [.cell 4 true 5]:=wT zaa Tryz.func37 (by kernel_rfl)
def zee:MC:=(fun x(_:x=gC tt [] [] [] (gLb 0 (gB Tryz.f64)))=>x) _ (by dsimp[Tryz.f64])
def zef:MC:=(fun x(_:x=gC tt [] [] [] (gLb 2 (gB Tryz.f64)))=>x) _ (by dsimp[Tryz.f64])
def zeg:MC:=(fun x(_:x=gC tt [] [(25,[0,0,0,0,8,0,56,120,252,511])] [] (gLb 4 (gB Tryz.f64)))=>x) _ (by dsimp[Tryz.f64])
def zdD:MC:=(fun x(_:x=gC tt [(3,19),(4,41),(3,111),(4,112),(3,143)] [(31,[0,0,3,0,0,31,63])] [(0,zee),(2,zef),(4,zeg)] (gB Tryz.f64))=>x) _ (by dsimp[Tryz.f64])
def zfs:WT Pg 64 145 zdD [.cell 4 true 5]:=wT zaa Tryz.func64 (by kernel_rfl)
def zf4:MC:=(fun x(_:x=gC tt [] [] [] (gLb 0 (gB Tryz.f63)))=>x) _ (by dsimp[Tryz.f63])
def zf5:MC:=(fun x(_:x=gC tt [] [(16,[0,1,3,7,15,7,39,127,255,7,519,7,3591,7687,16383,32767,65535,131071,262143,524287,1048575,2097151,4194303,8388607,16777215,33554431])] [] (gLb 2 (gB Tryz.f63)))=>x) _ (by dsimp[Tryz.f63])
def zlI:MC:=(fun x(_:x=gC tt [] [] [(0,zf4),(2,zf5)] (gB Tryz.f63))=>x) _ (by dsimp[Tryz.f63])
def zuD:WT Pg 63 147 zlI [.tmp 2]:=wT zaa Tryz.func63 (by kernel_rfl)
def zj2:MC:=(fun x(_:x=gC tt [] [] [] (gB Tryz.f65))=>x) _ (by dsimp[Tryz.f65])
def ztd:WT Pg 65 38 zj2 [.tmp 4]:=wT zaa Tryz.func65 (by kernel_rfl)
def zj3:MC:=(fun x(_:x=gC tt [] [(3,[0,1,3,7,0,16,48,112,15,511])] [] (gB Tryz.f106))=>x) _ (by dsimp[Tryz.f106])
def zte:WT Pg 106 18 zj3 [.cell 2 true 5,.cell 3 true 5]:=wT zaa Tryz.func106 (by kernel_rfl)
def zhv:MC:=(fun x(_:x=gC tt [] [] [] (gB Tryz.f99))=>x) _ (by dsimp[Tryz.f99])
def zlJ:WM Pg 99 20 zhv []:=wM zaa Tryz.func99 (by kernel_rfl)
def ze2:List Nat:=[0,5,10,11,12]
def zhB:MC:=(fun x(_:x=gC tt [(3,18)] [] [] (gLb 0 (gB Tryz.f104)))=>x) _ (by dsimp[Tryz.f104])
def zjf:MC:=(fun x(_:x=gC tt [(3,9)] [] [(0,zhB)] (gB Tryz.f104))=>x) _ (by dsimp[Tryz.f104])
def zrk:WT Pg 104 26 zjf [.tmp 4]:=wT zaa Tryz.func104 (by kernel_rfl)
def zhC:MC:=(fun x(_:x=gC tt [] [] [] (gB Tryz.f149))=>x) _ (by dsimp[Tryz.f149])
def zo4:WT Pg 149 9 zhC [.tmp 3]:=wT zaa Tryz.func149 (by kernel_rfl)
def zb1:List Nat:=[0,1,9,10,11]
def zey:MC:=(fun x(_:x=gC tt [] [(5,[0,0,0,4,12,28,0,64,252,0,512,1536,3584,0,8192,32764,65533,131069,262141,524287,1048575,2097151])] [] (gLb 0 (gB Tryz.f105)))=>x) _ (by dsimp[Tryz.f105])
def zft:MC:=(fun x(_:x=gC tt [(3,8),(5,8),(3,9)] [] [(0,zey)] (gB Tryz.f105))=>x) _ (by dsimp[Tryz.f105])
def ziE:WM Pg 105 42 zft []:=wM zaa Tryz.func105 (by kernel_rfl)
def zlK:MC:=(fun x(_:x=gC tt [] [] [] (gB Tryz.f95))=>x) _ (by dsimp[Tryz.f95])
def zuE:WT Pg 95 24 zlK [.cell 2 true 4,.tmp 3]:=wT zaa Tryz.func95 (by kernel_rfl)
def zf6:MC:=(fun x(_:x=gC tt [] [] [] (gLb 0 (gB Tryz.f143)))=>x) _ (by dsimp[Tryz.f143])
def zd0:MC:=(fun x(_:x=gC tt [(5,17),(4,50),(4,58),(4,65)] [] [(0,zf6)] (gB Tryz.f143))=>x) _ (by dsimp[Tryz.f143])
def zf7:WT Pg 143 70 zd0 [.cell 2 true 4,.tmp 3]:=wT zaa Tryz.func143 (by kernel_rfl)
def zjg:MC:=(fun x(_:x=gC tt [] [] [] (gB Tryz.f141))=>x) _ (by dsimp[Tryz.f141])
def zrl:WT Pg 141 5 zjg [.tmp 2]:=wT zaa Tryz.func141 (by kernel_rfl)
def zhD:MC:=(fun x(_:x=gC tt [] [] [] (gLb 0 (gB Tryz.f165)))=>x) _ (by dsimp[Tryz.f165])
def zf8:MC:=(fun x(_:x=gC tt [] [] [(0,zhD)] (gB Tryz.f165))=>x) _ (by dsimp[Tryz.f165])
def zj4:WT Pg 165 26 zf8 [.tmp 4]:=wT zaa Tryz.func165 (by kernel_rfl)
def zjh:MC:=(fun x(_:x=gC tt [] [] [] (gLb 0 (gB Tryz.f142)))=>x) _ (by dsimp[Tryz.f142])
def zlL:MC:=(fun x(_:x=gC tt [] [] [(0,zjh)] (gB Tryz.f142))=>x) _ (by dsimp[Tryz.f142])
def zuF:WT Pg 142 22 zlL [.tmp 2]:=wT zaa Tryz.func142 (by kernel_rfl)
def zlM:MC:=(fun x(_:x=gC tt [] [] [] (gB Tryz.f96))=>x) _ (by dsimp[Tryz.f96])
def zuG:WT Pg 96 31 zlM [.tmp 4]:=wT zaa Tryz.func96 (by kernel_rfl)
def zdm:MC:=(fun x(_:x=gC tt [] [] [] (gB Tryz.f145))=>x) _ (by dsimp[Tryz.f145])
def zrm:WT Pg 145 29 zdm [.cell 4 true 4,.tmp 5]:=wT zaa Tryz.func145 (by kernel_rfl)
def zhE:MC:=(fun x(_:x=gC tt [] [(1,[0,1,0,7,15])] [] (gB Tryz.f169))=>x) _ (by dsimp[Tryz.f169])
def zo5:WT Pg 169 8 zhE [.tmp 3]:=wT zaa Tryz.func169 (by kernel_rfl)
def zmK:MC:=(fun x(_:x=gC tt [] [] [] (gB Tryz.f170))=>x) _ (by dsimp[Tryz.f170])
def zwE:WT Pg 170 14 zmK [.tmp 2]:=wT zaa Tryz.func170 (by kernel_rfl)
def zfu:MC:=(fun x(_:x=gC tt [(2,36)] [] [] (gLb 2 (gB Tryz.f167)))=>x) _ (by dsimp[Tryz.f167])
def ziF:MC:=(fun x(_:x=gC tt [] [] [(2,zfu)] (gLb 0 (gB Tryz.f167)))=>x) _ (by dsimp[Tryz.f167])
def ziG:MC:=(fun x(_:x=gC tt [(5,43)] [(21,[0,1,0,4,12,28,63,127,255])] [] (gLb 4 (gB Tryz.f167)))=>x) _ (by dsimp[Tryz.f167])
def zj5:MC:=(fun x(_:x=gC tt [(5,43)] [(25,[0,0,2,6,14,1,63])] [(0,ziF),(4,ziG)] (gB Tryz.f167))=>x) _ (by dsimp[Tryz.f167])
def ztf:WT Pg 167 70 zj5 [.cell 2 true 4,.tmp 3]:=wT zaa Tryz.func167 (by kernel_rfl)
def ziH:MC:=(fun x(_:x=gC tt [] [(6,[0,0,2,6,14,30,63,127])] [] (gB Tryz.f186))=>x) _ (by dsimp[Tryz.f186])
def zo6:WM Pg 186 22 ziH [.tmp 3]:=wM zaa Tryz.func186 (by kernel_rfl)
def ze3:MC:=(fun x(_:x=gC tt [] [] [] (gLb 0 (gB Tryz.f166)))=>x) _ (by dsimp[Tryz.f166])
def ze4:MC:=(fun x(_:x=gC tt [] [(16,[0,1,3,7,7,23,63,127,255,7,519,2047,4095]),(18,[0,1,0,4,12,31,0,64,0,256,768,2047,255,8191,16383,32767])] [] (gLb 2 (gB Tryz.f166)))=>x) _ (by dsimp[Tryz.f166])
def zji:MC:=(fun x(_:x=gC tt [(5,23),(3,45),(4,46),(5,47)] [] [(0,ze3),(2,ze4)] (gB Tryz.f166))=>x) _ (by dsimp[Tryz.f166])
def zrn:WT Pg 166 84 zji [.cell 4 true 4,.tmp 5]:=wT zaa Tryz.func166 (by kernel_rfl)
def zom:MC:=(fun x(_:x=gC tt [] [] [] (gB Tryz.f182))=>x) _ (by dsimp[Tryz.f182])
def zyR:WT Pg 182 28 zom [.tmp 2]:=wT zaa Tryz.func182 (by kernel_rfl)
def zlN:MC:=(fun x(_:x=gC tt [] [] [] (gB Tryz.f193))=>x) _ (by dsimp[Tryz.f193])
def zuH:WT Pg 193 21 zlN [.tmp 2]:=wT zaa Tryz.func193 (by kernel_rfl)
def zmL:MC:=(fun x(_:x=gC tt [] [] [] (gLb 0 (gB Tryz.f194)))=>x) _ (by dsimp[Tryz.f194])
def zql:MC:=(fun x(_:x=gC tt [] [] [(0,zmL)] (gB Tryz.f194))=>x) _ (by dsimp[Tryz.f194])
def zAG:WT Pg 194 21 zql [.tmp 4]:=wT zaa Tryz.func194 (by kernel_rfl)
def zmM:MC:=(fun x(_:x=gC tt [] [] [] (gB Tryz.f195))=>x) _ (by dsimp[Tryz.f195])
def zwF:WT Pg 195 9 zmM [.tmp 2]:=wT zaa Tryz.func195 (by kernel_rfl)
def zmN:MC:=(fun x(_:x=gC tt [] [] [] (gB Tryz.f212))=>x) _ (by dsimp[Tryz.f212])
def zwG:WT Pg 212 9 zmN [.tmp 2]:=wT zaa Tryz.func212 (by kernel_rfl)
def zmO:MC:=(fun x(_:x=gC tt [] [] [] (gB Tryz.f197))=>x) _ (by dsimp[Tryz.f197])
def zwH:WT Pg 197 2 zmO [.tmp 0]:=wT zaa Tryz.func197 (by kernel_rfl)
def zc2:MC:=(fun x(_:x=gC tt [] [] [] (gB Tryz.f196))=>x) _ (by dsimp[Tryz.f196])
def zfN:WT Pg 196 9 zc2 [.tmp 4]:=wT zaa Tryz.func196 (by kernel_rfl)
def zc9:MC:=(fun x(_:x=gC tt [] [] [] (gLb 0 (gB Tryz.f146)))=>x) _ (by dsimp[Tryz.f146])
def zdB:MC:=(fun x(_:x=gC tt [] [] [(0,zc9)] (gB Tryz.f146))=>x) _ (by dsimp[Tryz.f146])
def zgF:WT Pg 146 19 zdB [.tmp 4]:=wT zaa Tryz.func146 (by kernel_rfl)
def zci:MC:=(fun x(_:x=gC tt [] [] [] (gLb 0 (gB Tryz.f168)))=>x) _ (by dsimp[Tryz.f168])
def zcv:MC:=(fun x(_:x=gC tt [] [] [(0,zci)] (gB Tryz.f168))=>x) _ (by dsimp[Tryz.f168])
def zez:WT Pg 168 19 zcv [.tmp 4]:=wT zaa Tryz.func168 (by kernel_rfl)
def zaZ:List Nat:=[1,2,15,16,17]
def zbn:MC:=(fun x(_:x=gC tt [] [] [] (gLb 0 (gB Tryz.f144)))=>x) _ (by dsimp[Tryz.f144])
def zbv:MC:=(fun x(_:x=gC tt [] [] [(0,zbn)] (gB Tryz.f144))=>x) _ (by dsimp[Tryz.f144])
def zcD:WT Pg 144 32 zbv [.tmp 6]:=wT zaa Tryz.func144 (by kernel_rfl)
def zbw:MC:=(fun x(_:x=gC tt [(7,0)] [] [] (gB Tryz.f103))=>x) _ (by dsimp[Tryz.f103])
def zfv:WT Pg 103 8 zbw [.tmp 2]:=wT zaa Tryz.func103 (by kernel_rfl)
def zfa:WM Pg 103 8 zbw [.tmp 2]:=wM zaa Tryz.func103 (by kernel_rfl)
def zcQ:List Nat:=[0,1,12,13]
def zej:MC:=(fun x(_:x=gC tt [] [(6,[0,0,3,7,0,0,48,112,255])] [] (gLb 0 (gB Tryz.f107)))=>x) _ (by dsimp[Tryz.f107])
def ze1:MC:=(fun x(_:x=gC tt [] [] [(0,zej)] (gB Tryz.f107))=>x) _ (by dsimp[Tryz.f107])
def zjw:WT Pg 107 26 ze1 [.tmp 4]:=wT zaa Tryz.func107 (by kernel_rfl)
def zb5:List Nat:=[0,1,12,13]
def zda:MC:=(fun x(_:x=gC tt [] [(6,[0,0,3,7,0,0,48,112,255])] [] (gLb 0 (gB Tryz.f109)))=>x) _ (by dsimp[Tryz.f109])
def zdC:MC:=(fun x(_:x=gC tt [] [] [(0,zda)] (gB Tryz.f109))=>x) _ (by dsimp[Tryz.f109])
def zgG:WT Pg 109 26 zdC [.tmp 4]:=wT zaa Tryz.func109 (by kernel_rfl)
def zbM:List Nat:=[0,1,12,13]
def zcI:MC:=(fun x(_:x=gC tt [] [(6,[0,0,3,7,0,0,48,112,255])] [] (gLb 0 (gB Tryz.f108)))=>x) _ (by dsimp[Tryz.f108])
def zcV:MC:=(fun x(_:x=gC tt [] [] [(0,zcI)] (gB Tryz.f108))=>x) _ (by dsimp[Tryz.f108])
def zfw:WT Pg 108 26 zcV [.tmp 4]:=wT zaa Tryz.func108 (by kernel_rfl)
def za5:List Nat:=[1,2,15,16,17]
def zbH:MC:=(fun x(_:x=gC tt [] [] [] (gLb 0 (gB Tryz.f110)))=>x) _ (by dsimp[Tryz.f110])
def zbJ:MC:=(fun x(_:x=gC tt [] [] [(0,zbH)] (gB Tryz.f110))=>x) _ (by dsimp[Tryz.f110])
def zdb:WT Pg 110 32 zbJ [.tmp 6]:=wT zaa Tryz.func110 (by kernel_rfl)
def zha:MC:=(fun x(_:x=gC tt [] [] [] (gB Tryz.f101))=>x) _ (by dsimp[Tryz.f101])
def znR:WT Pg 101 8 zha [.tmp 4]:=wT zaa Tryz.func101 (by kernel_rfl)
def zcW:MC:=(fun x(_:x=gC tt [(8,171)] [] [] (gB Tryz.f147))=>x) _ (by dsimp[Tryz.f147])
def zfx:WT Pg 147 8 zcW [.tmp 4]:=wT zaa Tryz.func147 (by kernel_rfl)
def zb9:MC:=(fun x(_:x=gC tt [] [] [] (gB Tryz.f148))=>x) _ (by dsimp[Tryz.f148])
def zd1:WT Pg 148 9 zb9 [.tmp 4]:=wT zaa Tryz.func148 (by kernel_rfl)
def zbB:List Nat:=[0,1,7,8]
def zcj:MC:=(fun x(_:x=gC tt [] [] [] (gLb 0 (gB Tryz.f172)))=>x) _ (by dsimp[Tryz.f172])
def zcw:MC:=(fun x(_:x=gC tt [] [] [(0,zcj)] (gB Tryz.f172))=>x) _ (by dsimp[Tryz.f172])
def zeA:WT Pg 172 19 zcw [.tmp 4]:=wT zaa Tryz.func172 (by kernel_rfl)
def zbX:MC:=(fun x(_:x=gC tt [(0,1)] [] [] (gB Tryz.f151))=>x) _ (by dsimp[Tryz.f151])
def zdz:WM Pg 151 4 zbX [.tmp 2]:=wM zaa Tryz.func151 (by kernel_rfl)
end Go.Gr
namespace Go.Gr.P
open Go.Abs Go.Proofs List
@[simp] theorem zHE(l:List (fC × Int))(k:Nat):(encN l)[k]?=(l[k]?).map fun x=>[.str x.1,.int .i64 x.2]:=by simp[encN]
def zA1(a b:List Int):PCall Pg 107 [.one (.sl false 1 (encI a)),.one (.sl false 1 (encI b))] (.one (.bool (decide (a=b)))):=by
 refine zjw (by simp) fun o c hN hp=>?_
 have hl:a.length<=zaf:=by have:=o.1;simp only[DV.ok,D.ok]at this;simpa[encI]using this.1
 unfold zaf at hl
 unfold ze1
 simp
 apply gI<;>intro h
 ·simp at h
  intro e;rw[e]at h;exact h rfl
 ·simp at h
  refine fM zaa hp zcQ [13] (fun j:Nat=>j<=a.length/\a.take j=b.take j) (fun j=>[.c (.d (.int .i64 j))]) (fun _=>[]) (fun j=>a.length-j) 0 [] (by simp) (by simp[zcQ]) fun j ⟨h1,h2⟩=>?_
  unfold zej zcQ
  simp
  apply gI<;>intro h
  ·have hj:j<a.length:=by simpa using h
   have hj':j<b.length:=by omega
   simp[aA hj,aA hj']
   refine⟨by decide,gI (fun h=>?_) (fun h=>?_)⟩
   ·simp at h
    intro e
    subst e
    exact h rfl
   ·simp at h
    refine fD (j+1) [] ⟨by omega,?_⟩ (by omega) (by simp;exact wI)
    rw[aJ hj,aJ hj',h2,h]
  ·have hj:j=a.length:=by simp at h;omega
   subst hj
   rw[bS,aF (by omega)]at h2
   exact h2
def zsx(a b:List fC):PCall Pg 109 [.one (.sl false 1 (encS a)),.one (.sl false 1 (encS b))] (.one (.bool (decide (a=b)))):=by
 refine zgG (by simp) fun o c hN hp=>?_
 have hl:a.length<=zaf:=by have:=o.1;simp only[DV.ok,D.ok]at this;simpa[encS]using this.1
 unfold zaf at hl
 unfold zdC
 simp
 apply gI<;>intro h
 ·simp at h
  intro e;rw[e]at h;exact h rfl
 ·simp at h
  refine fM zaa hp zb5 [13] (fun j:Nat=>j<=a.length/\a.take j=b.take j) (fun j=>[.c (.d (.int .i64 j))]) (fun _=>[]) (fun j=>a.length-j) 0 [] (by simp) (by simp[zb5]) fun j ⟨h1,h2⟩=>?_
  unfold zda zb5
  simp
  apply gI<;>intro h
  ·have hj:j<a.length:=by simpa using h
   have hj':j<b.length:=by omega
   simp[aA hj,aA hj']
   refine⟨by decide,gI (fun h=>?_) (fun h=>?_)⟩
   ·simp at h
    intro e
    subst e
    exact h rfl
   ·simp at h
    refine fD (j+1) [] ⟨by omega,?_⟩ (by omega) (by simp;exact wI)
    rw[aJ hj,aJ hj',h2,h]
  ·have hj:j=a.length:=by simp at h;omega
   subst hj
   rw[bS,aF (by omega)]at h2
   exact h2
def zy2(a b:List (fC × Int)):PCall Pg 108 [.one (.sl false 2 (encN a)),.one (.sl false 2 (encN b))] (.one (.bool (decide (a=b)))):=by
 refine zfw (by simp) fun o c hN hp=>?_
 have hl:a.length<=zaf:=by have:=o.1;simp only[DV.ok,D.ok]at this;simpa[encN]using this.1
 unfold zaf at hl
 unfold zcV
 simp
 apply gI<;>intro h
 ·simp at h
  intro e;rw[e]at h;exact h rfl
 ·simp at h
  refine fM zaa hp zbM [13] (fun j:Nat=>j<=a.length/\a.take j=b.take j) (fun j=>[.c (.d (.int .i64 j))]) (fun _=>[]) (fun j=>a.length-j) 0 [] (by simp) (by simp[zbM]) fun j ⟨h1,h2⟩=>?_
  unfold zcI zbM
  simp
  apply gI<;>intro h
  ·have hj:j<a.length:=by simpa using h
   have hj':j<b.length:=by omega
   simp[aA hj,aA hj']
   refine⟨by decide,gI (fun h=>?_) (fun h=>?_)⟩
   ·simp at h
    intro e
    subst e
    simp at h
   ·simp at h
    refine fD (j+1) [] ⟨by omega,?_⟩ (by omega) (by simp;exact wI)
    rw[aJ hj,aJ hj',h2,Prod.ext h.1 h.2]
  ·have hj:j=a.length:=by simp at h;omega
   subst hj
   rw[bS,aF (by omega)]at h2
   exact h2
def zyw:PCall Pg 66 [] (.agg idC.enc):=by
 refine zwD (by simp) fun o c hN hp=>?_
 unfold zf3
 simp[idC,Coe.enc,encI,encN,encS,Coe.encs]
def eqF{α:Type}(q:α->α->Bool):List α->List α->Bool
 |[],[]=>true
 |a::l,b::k=>q a b&&eqF q l k
 |_,_=>false
def zgw{α:Type}(q:α->α->Bool):∀{a b:List α},a.length≠b.length->eqF q a b=false
 |[],[],h=>by simp at h
 |[],_::_,h=>rfl
 |_::_,[],h=>rfl
 |a::l,b::k,h=>by simp only[eqF];rw[zgw q (a:=l) (b:=k) (by simpa using h)];simp
def zmh(a b:List Coe)(g:FuncId)(caps:List D)(q:Coe->Coe->Bool)(H:∀x,x∈a->∀y,PCall Pg g (.agg x.enc::.agg y.enc::caps.map .one) (.one (.bool (q x y)))):
  PCall Pg 110 [.one (.sl false 5 (a.map Coe.enc)),.one (.sl false 5 (b.map Coe.enc)),.one (.fn (.func g) caps)] (.one (.bool (eqF q a b))):=by
 refine zdb (by simp) fun o c hN hp=>?_
 have hl:a.length<=zaf:=by have:=o.1;simp only[DV.ok,D.ok]at this;simpa using this.1
 unfold zaf at hl
 unfold zbJ
 simp
 apply gI<;>intro h
 ·simp at h
  exact zgw q (by omega)
 ·simp at h
  refine fM zaa hp za5 [17] (fun j:Nat=>j<=a.length/\eqF q (a.drop j) (b.drop j)=eqF q a b) (fun j=>[.c (.d (.int .i64 j))]) (fun _=>[]) (fun j=>a.length-j) 0 [] (by simp) (by simp[za5]) fun j ⟨h1,h2⟩=>?_
  unfold zbH za5
  simp
  apply gI<;>intro h
  ·have hj:j<a.length:=by simpa using h
   have hj':j<b.length:=by omega
   rw[aG hj,aG hj',eqF]at h2
   simp[aA hj,aA hj']
   refine gN (H _ (aS hj) _) ?_
   simp
   apply gI<;>intro h
   ·simp at h
    rw[h,Bool.false_and]at h2
    exact h2.symm
   ·simp at h
    rw[h,Bool.true_and]at h2
    exact fD (j+1) [] ⟨by omega,h2⟩ (by omega) (by simp;exact wI)
  ·have hj:j=a.length:=by simp at h;omega
   subst hj
   rw[aO,bG (by omega)]at h2
   rw[<-h2];try rfl
def zg3:∀(a b:List Coe),zco a b=eqF za9 a b
 |[],[]=>by simp[zco,eqF]
 |[],_::_=>by simp[zco,eqF]
 |_::_,[]=>by simp[zco,eqF]
 |a::l,b::k=>by simp[zco,eqF,zg3 l k]
def zt4(a b:Coe):za9 a b=(decide (a.tags=b.tags)&&(decide (a.needs=b.needs)&&(decide (a.names=b.names)&&(eqF za9 a.fields b.fields&&eqF za9 a.fn b.fn)))):=by
 cases a;cases b
 simp only[za9,zg3]
 rfl
def zCr(a b:Coe)(ih:∀x,x∈a.fields\/x∈a.fn->∀y,PCall Pg 65 [.agg x.enc,.agg y.enc] (.one (.bool (za9 x y)))):PCall Pg 65 [.agg a.enc,.agg b.enc] (.one (.bool (za9 a b))):=by
 have e:=zt4 a b
 rw[Coe.enc_eq a,Coe.enc_eq b]
 refine ztd (by simp) fun o c hN hp=>?_
 unfold zj2
 simp
 refine gN (zA1 _ _) ?_
 generalize decide (a.tags=b.tags)=p1 at e⊢
 simp
 apply gI<;>intro h1
 ·refine gN (zy2 _ _) ?_
  generalize decide (a.needs=b.needs)=p2 at e⊢
  simp
  apply gI<;>intro h2
  ·refine gN (zsx _ _) ?_
   generalize decide (a.names=b.names)=p3 at e⊢
   simp
   apply gI<;>intro h3
   ·refine gN (zmh _ _ 65 [] za9 fun x hx y=>ih x (.inl hx) y) ?_
    generalize eqF za9 a.fields b.fields=p4 at e⊢
    simp
    apply gI<;>intro h4
    ·refine gN (zmh _ _ 65 [] za9 fun x hx y=>ih x (.inr hx) y) ?_
     simp[e,h1,h2,h3,h4]
    ·simp at h4
     simp[e,h4]
   ·simp at h3
    simp[e,h3]
  ·simp at h2
   simp[e,h2]
 ·simp at h1
  simp[e,h1]
mutual
def zxl:∀(a b:Coe),PCall Pg 65 [.agg a.enc,.agg b.enc] (.one (.bool (za9 a b)))
 |.mk t n s f g,b=>zCr _ b fun x hx y=>hx.elim (fun h=>zoO f x h y) (fun h=>zoO g x h y)
def zoO:∀(l:List Coe) (x:Coe),x∈l->∀y,PCall Pg 65 [.agg x.enc,.agg y.enc] (.one (.bool (za9 x y)))
 |c::l,x,h,y=>by
  cases aM.1 h with
  |inl e=>rw[e];exact zxl c y
  |inr e=>exact zoO l x e y
end
end Go.Gr.P
namespace Go.Gr.P
open Go.Abs Go.Proofs
def zdd(a:Coe):PCall Pg 102 [.agg a.enc] (.one (.bool (za9 a idC))):=by
 refine ztc (by simp) fun o c hN hp=>?_
 unfold zj1
 simp
 refine gN zyw ?_
 simp
 refine gN (zxl a idC) ?_
 simp
 decide
end Go.Gr.P
namespace Go.Gr.P
open Go.Abs Go.Proofs
def zy9(a b:fC):PCall Pg 101 [.one (.str a),.one (.str b)] (.one (.int .i64 (Lib.compareBytes a.data.toList b.data.toList))):=by
 have h:PCall Pg 147 [.one (.str a),.one (.str b)] (.one (.int .i64 (Lib.compareBytes a.data.toList b.data.toList))):=by
  refine zfx (by simp) fun o c hN hp=>?_
  unfold zcW
  simp
 refine znR (by simp) fun o c hN hp=>?_
 unfold zha
 simp
 refine gN h ?_
 simp
end Go.Gr.P
namespace Go.Gr.P
open Go.Abs Go.Proofs List
def ztr{c:Ctx}(hp:c.pure)(d:Coe)(hl:d.needs.length<=zaf){Q:Exit->St->Prop}{S:St}{g}(l0:List Nat)
  (h0:Match l0 S [(62,.c (.d (.int .i64 0))),(1,.c (.d (.rp d.enc 0))),(60,.c (.d (.sl false 2 (encN d.needs)))),(61,.c (.d (.int .i64 d.needs.length))),(3,.c (.map 0))] [.map []])
  (hQ:∀T b x,zcu [] d.needs=true->Abs.look T 1=.c (.d (.rp d.enc 0))->Q (.exit 0) ⟨T,hpOf [b],x⟩)
  (hR:∀T m x,zcu [] d.needs=false->Abs.look T 2=.c (.d (.bool false))->Q .ret ⟨T,m,x⟩):lw_ Pg c zf4 Q g S:=by
 unfold zaf at hl
 refine fK zaa hp (fun j:Nat=>j<=d.needs.length/\zne d.needs j) (fun j=>[(62,.c (.d (.int .i64 j))),(1,.c (.d (.rp d.enc 0))),(60,.c (.d (.sl false 2 (encN d.needs)))),(61,.c (.d (.int .i64 d.needs.length))),(3,.c (.map 0))]) (fun j=>[.map (hadM (d.needs.take j))]) (fun j=>d.needs.length-j) 0 l0 ⟨by simp,fun i h hj=>by omega⟩ h0 fun j ⟨g1,g2⟩=>?_
 unfold zf4
 simp
 apply gI<;>intro h
 ·have hj:j<d.needs.length:=by simpa using h
  simp[aA hj]
  apply gI<;>intro h
  ·simp at h
   by_cases hm:∃x,x∈d.needs.take j/\d.needs[j].1=x.1
   ·obtain⟨k,hk⟩:=zvg _ _ 0 hm
    simp[hk]
    refine hR _ _ _ (zl0 fun H=>?_) (by simp)
    obtain⟨x,hx,e⟩:=hm
    obtain⟨i,hi,rfl⟩:=bM hx
    simp at hi
    rw[getElem_take]at e
    exact(H j hj hj).2 i (by omega) e.symm
   ·have hk:=zvf d.needs[j].1 (d.needs.take j) 0 fun x hx e=>hm ⟨x,hx,e⟩
    simp[hk]
    refine fD (j+1) [0] ⟨by omega,fun i hi hij=>?_⟩ (by omega) ?_
    ·by_cases e:i=j
     ·subst e
      refine⟨h,fun k hk e=>hm ⟨d.needs[k],?_,e.symm⟩⟩
      exact List.mem_iff_getElem.2 ⟨k,by simp;omega,by rw[getElem_take]⟩
     ·exact g2 i hi (by omega)
    ·simp
     exact⟨wI,by rw[zC9,aJ hj,zwM],fun a b hab=>zER hab⟩
  ·simp at h
   exact hR _ _ _ (zl0 fun H=>(H j hj hj).1 h) (by simp)
 ·have hj:j=d.needs.length:=by simp at h;omega
  subst hj
  exact hQ _ _ _ (zv7 g2) (by simp)
def zts{c:Ctx}(hp:c.pure)(d:Coe)(hn:d.names.length=d.fields.length)(hl:d.fields.length<=zaf){Q:Exit->St->Prop}{S:St}{g}
  (ih:∀x,x∈d.fields\/x∈d.fn->PCall Pg 63 [.agg x.enc] (.one (.bool (mayC x))))
  (h0:Match [] S [(82,.c (.d (.int .i64 0))),(1,.c (.d (.rp d.enc 0))),(80,.c (.d (.sl false 5 (d.fields.map Coe.enc)))),(81,.c (.d (.int .i64 d.fields.length)))] [])
  (hQ:∀T m x,(zdw d.names&&d.fields.all fun c=>mayC c&& !za9 c idC)=true->Abs.look T 1=.c (.d (.rp d.enc 0))->Q (.exit 2) ⟨T,m,x⟩)
  (hR:∀T m x,(zdw d.names&&d.fields.all fun c=>mayC c&& !za9 c idC)=false->Abs.look T 2=.c (.d (.bool false))->Q .ret ⟨T,m,x⟩):lw_ Pg c zf5 Q g S:=by
 unfold zaf at hl
 refine fK zaa hp (fun j:Nat=>j<=d.fields.length/\(∀i (h:i+1<d.names.length),i+1<j->leS d.names[i+1] d.names[i]=false)/\((d.fields.drop j).all fun c=>mayC c&& !za9 c idC)=d.fields.all fun c=>mayC c&& !za9 c idC) (fun j=>[(82,.c (.d (.int .i64 j))),(1,.c (.d (.rp d.enc 0))),(80,.c (.d (.sl false 5 (d.fields.map Coe.enc)))),(81,.c (.d (.int .i64 d.fields.length)))]) (fun j=>[]) (fun j=>d.fields.length-j) 0 [] ⟨by simp,fun i h hj=>by omega,by simp⟩ h0 fun j ⟨g1,g2,g3⟩=>?_
 unfold zf5
 simp
 apply gI<;>intro h
 ·have hj:j<d.fields.length:=by simpa using h
  have hj':j<d.names.length:=by omega
  rw[aG hj,all_cons]at g3
  simp[aA hj]
  cases j with
  | zero=>
   simp
   refine gN (ih _ (.inl (aS hj))) ?_
   simp
   apply gI<;>intro h1
   ·simp at h1
    refine gN (zdd _) ?_
    simp
    refine⟨by decide,gI (fun h2=>?_) (fun h2=>?_)⟩
    ·refine hR _ _ _ ?_ (by simp)
     rw[<-g3,h1,h2];simp
    ·simp at h2
     rw[h1,h2]at g3
     exact fD (0+1) [] ⟨by omega,fun i hi hij=>by omega,by simpa using g3⟩ (by omega) (by simp;exact wI)
   ·simp at h1
    refine⟨by decide,hR _ _ _ ?_ (by simp)⟩
    rw[<-g3,h1];simp
  | succ k=>
   have hk:k<d.names.length:=by omega
   have hw:IntKind.i64.wrap (k:Int)=k:=wI
   simp[hw,aA hk,aA hj',show(0:Int)<(k:Int)+1 by omega]
   refine gN (zy9 _ _) ?_
   have hcmp:=zFk d.names[k+1] d.names[k]
   simp
   rw[<-hcmp]
   apply gI<;>intro hle
   ·refine gN (ih _ (.inl (aS hj))) ?_
    simp
    apply gI<;>intro h1
    ·simp at h1
     refine gN (zdd _) ?_
     simp
     refine⟨by decide,gI (fun h2=>?_) (fun h2=>?_)⟩
     ·refine hR _ _ _ ?_ (by simp)
      rw[<-g3,h1,h2];simp
     ·simp at h2
      rw[h1,h2]at g3
      exact fD ((k+1)+1) [] ⟨by omega,fun i hi hij=>by
       by_cases e:i=k
       ·subst e;exact hle
       ·exact g2 i hi (by omega),by simpa using g3⟩ (by omega) (by simp;exact wI)
    ·simp at h1
     refine⟨by decide,hR _ _ _ ?_ (by simp)⟩
     rw[<-g3,h1];simp
   ·refine⟨by decide,hR _ _ _ ?_ (by simp)⟩
    rw[zs4 (by omega) hle];try rfl
 ·have hj:j=d.fields.length:=by simp at h;omega
  subst hj
  refine hQ _ _ _ ?_ (by simp)
  rw[zq1 fun i h=>g2 i h (by omega),<-g3,aO];try rfl
def zDr (d:Coe) (ih:∀x,x∈d.fields\/x∈d.fn->PCall Pg 63 [.agg x.enc] (.one (.bool (mayC x)))):PCall Pg 63 [.agg d.enc] (.one (.bool (mayC d))):=by
 have e:=zx4 d
 refine zuD (by simp) fun o c hN hp=>?_
 have hl:d.needs.length<=zaf/\d.fields.length<=zaf/\d.fn.length<=zaf:=by
  have:=o.1;rw[Coe.enc_eq]at this;simp only[DV.ok,D.okL,D.ok,zwm,zwn,ze9,aU]at this;exact⟨this.2.1.1,this.2.2.2.1.1,this.2.2.2.2.1.1⟩
 have hl3:=hl.2.2
 unfold zaf at hl3
 unfold zlI
 by_cases k1:d.tags.length=6
 rotate_left
 ·simp[show¬((d.tags.length:Int)=6) by omega,e,ownC,k1]
 by_cases k2:d.names.length=d.fields.length
 rotate_left
 ·simp[k1,show¬((d.names.length:Int)=(d.fields.length:Int)) by omega,e,ownC,k2]
 have k2i:((d.names.length:Int)=(d.fields.length:Int))=True:=eq_true (by omega)
 have k1i:(d.tags.length:Int)=6:=by omega
 have ht4:d.tags[4]?=some (tagZ d 4):=by unfold tagZ;rw[List.getD,aA (by omega)];try rfl
 have ht5:d.tags[5]?=some (tagZ d 5):=by unfold tagZ;rw[List.getD,aA (by omega)];try rfl
 have fin:(d.fn.length=0\/d.fn.length=2)->¬(tagZ d 4≠0/\0<d.names.length\/tagZ d 5≠0/\0<d.fn.length)->mayC d=(zcu [] d.needs&&((zdw d.names&&d.fields.all fun c=>mayC c&& !za9 c idC)&&zhV d.fn)):=fun h h'=>by
  rw[e];unfold ownC;rw[fA ⟨k1,k2,h⟩,fA h'];simp[Bool.and_assoc]
 have fon:¬(d.fn.length=0\/d.fn.length=2)\/(tagZ d 4≠0/\0<d.names.length\/tagZ d 5≠0/\0<d.fn.length)->mayC d=false:=fun h=>by
  rw[e];unfold ownC
  rcases h with h|h
  ·rw[eY (fun x=>h x.2.2)];try rfl
  ·rw[eY (p:=¬_) (fun x=>x h)];simp
 have kn:d.names.length=0\/0<d.names.length:=by omega
 have kf:(d.fn=[]\/∃x y,d.fn=[x,y])\/¬(d.fn.length=0\/d.fn.length=2):=by
  match d.fn with
  |[]=>simp
  |[_]=>simp
  |[x,y]=>simp
  |_::_::_::_=>simp
 rcases kf with k3|k3
 rotate_right
 ·have hf:=fon (.inl k3)
  have a2:((d.fn.length:Int).tmod 2=0)->(2<(d.fn.length:Int)):=by
   intro h
   have h2:((d.fn.length:Int).tmod 2)=(d.fn.length:Int)%2:=Int.tmod_eq_emod_of_nonneg (by omega)
   omega
  simp[k1i,k2i]
  apply gI<;>intro h
  ·have h3:=a2 (by simpa using h)
   simp[h3,hf]
  ·simp[hf]
 rcases k3 with k3|⟨x0,y0,k3⟩
 ·have k3l :d.fn.length=0:=by rw[k3];try rfl
  by_cases k4:tagZ d 4=0
  rotate_left
  ·rcases kn with kn|kn
   rotate_left
   ·have hf:=fon (.inr (.inl ⟨k4,kn⟩))
    simp[k1i,k2i,k3,ht4,ht5,k4,kn,show(0:Int)<d.names.length by omega,hf]
   ·have kn':((0:Int)=d.fields.length)=True:=eq_true (by omega)
    by_cases k5:tagZ d 5=0
    all_goals
     first
       | (
         have hf:=fin (by omega) (by omega)
         simp[k1i,k2i,k3,ht4,ht5,k4,kn,kn',k5]
         refine ztr hp d hl.1 [0] (by simp) (fun T b x H e1=>?_) (fun T m x H e2=>?_)
         ·simp[e1]
          refine zts hp d k2 hl.2.1 ih (by simp[e1]) (fun T m x H' e1=>?_) (fun T m x H' e2=>?_)
          ·simp[e1,k3]
           simp[hf,H,H',k3,zhV]
          ·simp[e2,hf,H,H']
         ·simp[e2,hf,H])
       | (
         have hf:=fon (.inr (.inr ⟨k5,by omega⟩))
         simp[k1i,k2i,k3,ht4,ht5,k4,kn,kn',k5,hf])
  ·by_cases k5:tagZ d 5=0
   all_goals
    first
      | (
        have hf:=fin (by omega) (by omega)
        simp[k1i,k2i,k3,ht4,ht5,k4,k5]
        refine ztr hp d hl.1 [0] (by simp) (fun T b x H e1=>?_) (fun T m x H e2=>?_)
        ·simp[e1]
         refine zts hp d k2 hl.2.1 ih (by simp[e1]) (fun T m x H' e1=>?_) (fun T m x H' e2=>?_)
         ·simp[e1,k3]
          simp[hf,H,H',k3,zhV]
         ·simp[e2,hf,H,H']
        ·simp[e2,hf,H])
      | (
        have hf:=fon (.inr (.inr ⟨k5,by omega⟩))
        simp[k1i,k2i,k3,ht4,ht5,k4,k5,hf])
 ·have k3l : d.fn.length=2:=by rw[k3];try rfl
  by_cases k4:tagZ d 4=0
  rotate_left
  ·rcases kn with kn|kn
   rotate_left
   ·have hf:=fon (.inr (.inl ⟨k4,kn⟩))
    simp[k1i,k2i,k3,ht4,ht5,k4,kn,show(0:Int)<d.names.length by omega,hf]
   ·have kn' :((0:Int)=d.fields.length)=True:=eq_true (by omega)
    by_cases k5:tagZ d 5=0
    all_goals
     first
       | (
         have hf:=fin (by omega) (by omega)
         simp[k1i,k2i,k3,ht4,ht5,k4,kn,kn',k5]
         refine ztr hp d hl.1 [0] (by simp) (fun T b x H e1=>?_) (fun T m x H e2=>?_)
         ·simp[e1]
          refine zts hp d k2 hl.2.1 ih (by simp[e1]) (fun T m x H' e1=>?_) (fun T m x H' e2=>?_)
          ·simp[e1,k3]
           rw[H,H',k3,zhV]at hf
           refine gN (ih x0 (.inr (by simp[k3]))) ?_
           simp[e1,k3]
           apply gI<;>intro m1
           ·refine gN (ih y0 (.inr (by simp[k3]))) ?_
            simp[e1,k3]
            apply gI<;>intro m2
            ·refine gN (zdd x0) ?_
             simp[e1,k3]
             apply gI<;>intro m3
             ·refine gN (zdd y0) ?_
              simp
              rw[hf,m1,m2,m3];simp
             ·simp at m3
              rw[hf,m1,m2,m3];simp
            ·simp at m2
             rw[hf,m1,m2];simp
           ·simp at m1
            rw[hf,m1];simp
          ·simp[e2,hf,H,H']
         ·simp[e2,hf,H])
       | (
         have hf:=fon (.inr (.inr ⟨k5,by omega⟩))
         simp[k1i,k2i,k3,ht4,ht5,k4,kn,kn',k5,hf])
  ·by_cases k5:tagZ d 5=0
   all_goals
    first
      | (
        have hf:=fin (by omega) (by omega)
        simp[k1i,k2i,k3,ht4,ht5,k4,k5]
        refine ztr hp d hl.1 [0] (by simp) (fun T b x H e1=>?_) (fun T m x H e2=>?_)
        ·simp[e1]
         refine zts hp d k2 hl.2.1 ih (by simp[e1]) (fun T m x H' e1=>?_) (fun T m x H' e2=>?_)
         ·simp[e1,k3]
          rw[H,H',k3,zhV]at hf
          refine gN (ih x0 (.inr (by simp[k3]))) ?_
          simp[e1,k3]
          apply gI<;>intro m1
          ·refine gN (ih y0 (.inr (by simp[k3]))) ?_
           simp[e1,k3]
           apply gI<;>intro m2
           ·refine gN (zdd x0) ?_
            simp[e1,k3]
            apply gI<;>intro m3
            ·refine gN (zdd y0) ?_
             simp
             rw[hf,m1,m2,m3];simp
            ·simp at m3
             rw[hf,m1,m2,m3];simp
           ·simp at m2
            rw[hf,m1,m2];simp
          ·simp at m1
           rw[hf,m1];simp
         ·simp[e2,hf,H,H']
        ·simp[e2,hf,H])
      | (
        have hf:=fon (.inr (.inr ⟨k5,by omega⟩))
        simp[k1i,k2i,k3,ht4,ht5,k4,k5,hf])
mutual
def zrz:∀(a:Coe),PCall Pg 63 [.agg a.enc] (.one (.bool (mayC a)))
 |.mk t n s f g=>zDr _ fun x hx=>hx.elim (fun h=>zpn f x h) (fun h=>zpn g x h)
def zpn:∀(l:List Coe) (x:Coe),x∈l->PCall Pg 63 [.agg x.enc] (.one (.bool (mayC x)))
 |c::l,x,h=>by
  cases aM.1 h with
  |inl e=>rw[e];exact zrz c
  |inr e=>exact zpn l x e
end
def noTs{ts:List (Nat × Nat)}(h:ts.length=([]:List Blk).length):ts=[]:=by simpa using h
def za6{ts:List (Nat × Nat)}{b:Blk}(h:ts.length=[b].length):∃t,ts=[t]:=by
 match ts,h with
 |[t],_=>exact⟨t,rfl⟩
def zqy{ts:List (Nat × Nat)}{b c:Blk}(h:ts.length=[b,c].length):∃t u,ts=[t,u]:=by
 match ts,h with
 |[t,u],_=>exact⟨t,u,rfl⟩
def IdM:MCall Pg 66 [] [] (.ag [.msl 1 0 0 6,.d (.sl true 2 []),.d (.sl true 1 []),.d (.sl true 5 []),.d (.sl true 5 [])]) [.arr 1 ((encI six0).map (·.map .d))]:=by
 refine zuC ⟨by simp,by simp,by simp,by simp,by simp,by simp[encI,six0,live],by simp[encI,six0]⟩ fun ts hts ok hb c hN hp=>?_
 obtain rfl:=noTs hts
 unfold zf3
 simp
 exact fJ [1] [] (by simp[encI,six0])
def zBn(l:List (fC × Int))(hl:l.length<=1073741824):MCall Pg 103 [.c (.d (.sl false 2 (encN l)))] [] (.c (.msl 2 0 0 l.length)) [.arr 2 ((encN l).map (·.map .d))]:=by
 refine zfa ⟨by simp,by simp,by simp,by simp,by simp,by simp[encN,live],by simp[encN]⟩ fun ts hts ok hb c hN hp=>?_
 obtain rfl:=noTs hts
 unfold zbw
 cases l with
 | nil=>
  simp[encN]
  refine⟨fQ [.t 2] ?_,fQ [] ?_⟩
  ·simp
   exact fI [0] []
  ·simp
   exact fI [0] []
 |cons x l=>
  simp[encN]
  refine⟨by simp at hl;omega,?_⟩
  refine fQ [] ?_
  simp
  exact fI [0] []
def zBo(l:List (fC × Int))(g:FuncId)(caps:List D)(q:fC × Int->Bool)(H:∀x,x∈l->PCall Pg g (.agg (zgU x)::caps.map .one) (.one (.bool (q x)))):
  PCall Pg 172 [.one (.sl false 2 (encN l)),.one (.fn (.func g) caps)] (.one (.int .i64 (ix q 0 l))):=by
 refine zeA (by simp) fun o c' hN hp=>?_
 have hl:l.length<=zaf:=by
  have:=o.1;simp only[DV.ok,D.ok]at this;simpa using this.1
 unfold zaf at hl
 unfold zcw
 simp
 refine fM zaa hp zbB [8] (fun j:Nat=>j<=l.length/\ix q j (l.drop j)=ix q 0 l) (fun j=>[.c (.d (.int .i64 j))]) (fun _=>[]) (fun j=>l.length-j) 0 [] ⟨by simp,by simp⟩ (by simp[zbB]) fun j ⟨h1,h2⟩=>?_
 unfold zcj zbB
 simp
 apply gI<;>intro h
 ·simp at h
  have hj:j<l.length:=by omega
  simp[aA hj]
  rw[aG hj,ix]at h2
  refine gN (H _ (aS hj)) ?_
  simp
  refine gI (fun h'=>?_) (fun h'=>?_)
  ·rw[aC h']at h2
   exact h2
  ·rw[Bool.not_true]at h'
   rw[aB (by rw[h'];simp)]at h2
   refine fD (j+1) [] ⟨by omega,h2⟩ (by omega) ?_
   simp
   exact wI
 ·have hj:j=l.length:=by simp at h;omega
  rw[<-h2,hj]
  simp[ix]
def zvA(l:List (fC × Int))(g:FuncId)(caps:List D)(q:fC × Int->Bool)(H:∀x,x∈l->PCall Pg g (.agg (zgU x)::caps.map .one) (.one (.bool (q x)))):
  PCall Pg 148 [.one (.sl false 2 (encN l)),.one (.fn (.func g) caps)] (.one (.bool (l.any q))):=by
 refine zd1 (by simp) fun o c' hN hp=>?_
 unfold zb9
 simp
 refine gN (zBo l g caps q H) ?_
 simp[zA2]
def zBp(m n:fC × Int):PCall Pg 149 [.agg (zgU m),.one (.rp (zgU n) 0)] (.one (.bool (decide (m.1=n.1)))):=by
 refine zo4 (by simp) fun o c' hN hp=>?_
 unfold zhC
 simp[zgU]
def zvB(a b:List (fC × Int))(ha:a.length<=1073741824)(hb:b.length<=1073741824):PCall Pg 104 [.one (.sl false 2 (encN a)),.one (.sl false 2 (encN b))] (.one (.sl false 2 (encN (zbi a b)))):=by
 refine zrk (by simp) fun o c' hN hp=>?_
 unfold zjf
 simp
 refine gK [] (zBn a ha) ?_
 simp
 have K:∀j,(b.take j).length<=1073741824:=fun j=>by rw[bI];omega
 refine fM zaa hp ze2 [12,5] (fun j:Nat=>j<=b.length) (fun j=>[.c (.d (.int .i64 j)),.c (.msl 2 0 0 (zbi a (b.take j)).length)]) (fun j=>[.arr 2 ((encN (zbi a (b.take j))).map (·.map .d))]) (fun j=>b.length-j) 0 [0] (by simp) (by simp[ze2,zbi]) fun j h1=>?_
 unfold zhB ze2
 simp
 apply gI<;>intro h
 ·have hj:j<b.length:=by simpa using h
  simp[aA hj]
  have hc:PCall Pg 148 [.one (.sl false 2 (encN a)),.one (.fn (.func 149) [.rp (zgU b[j]) 0])] (.one (.bool (a.any fun m=>decide (m.1=b[j].1)))):=zvA a 149 [.rp (zgU b[j]) 0] (fun m=>decide (m.1=b[j].1)) fun m hm=>zBp m b[j]
  have hs:zbi a (b.take (j+1))=if(a.any fun m=>decide (m.1=b[j].1))=true then zbi a (b.take j)else zbi a (b.take j)++[b[j]]:=by
   unfold zbi
   rw[aJ hj,dF]
   by_cases hq:(a.any fun m=>decide (m.1=b[j].1))=true<;>simp[hq]
  generalize (a.any fun m=>decide (m.1=b[j].1))=t at hc hs
  refine gM [1] (MCall.frzB (bs:=[.box ((zgU b[j]).map .d)]) (args:=[.c (.d (.sl false 2 (encN a))),.c (.fn (.func 149) [.ptr 0 0])]) hc (by simp) (by simp) (by simp)) (by simp[zgU]) ?_
  simp[zgU]
  have hlen:(zbi a (b.take j)).length<=2147483648:=by
   unfold zbi
   have:=bV (fun n:fC × Int=> !a.any fun m=>decide (m.1=n.1)) (b.take j)
   have:=K j
   simp only[aX];omega
  apply gI<;>intro h
  ·simp at h
   refine⟨by omega,?_⟩
   rw[h]at hs
   simp at hs
   refine fD (j+1) [2] (by omega) (by omega) ?_
   simp[hs]
   exact⟨wI,by rw[aF (by simp)];simp[encN]⟩
  ·simp at h
   rw[h]at hs
   simp at hs
   refine fD (j+1) [0] (by omega) (by omega) ?_
   simp[hs]
   exact wI
 ·have hj:j=b.length:=by simp at h;omega
  subst hj
  simp
  rw[aF (by simp)]
def zh1(c:Coe)(h:c.fn.length=0\/c.fn.length=2):PCall Pg 106 [.agg c.enc] (.tup [.agg (zaB c).1.enc,.agg (zaB c).2.enc]):=by
 refine zte (by simp) fun o c' hN hp=>?_
 unfold zj3
 simp
 apply gI<;>intro h1
 ·have h0:c.fn=[]:=by simpa using h1
  refine gN zyw ?_
  simp
  refine gN zyw ?_
  simp[zaB,h0]
 ·have h0:c.fn≠[]:=by simpa using h1
  have h2:c.fn.length=2:=h.resolve_left fun e=>h0 (aT.1 e)
  obtain⟨x,y,hxy⟩:∃x y,c.fn=[x,y]:=by
   match c.fn,h2 with
   |[x,y],_=>exact⟨x,y,rfl⟩
  simp[hxy,zaB]
  decide
def zvC(a b s x:D)(h1:a.one=true)(f g:Coe):MCall Pg 99 [.c (.ptr 0 0),.ag (f.enc.map .d),.ag (g.enc.map .d)] [.box [.d a,.d b,.d s,.d x,.d (.sl true 5 [])]] (.tup []) [.box [.d a,.d b,.d s,.d x,.d (.sl true 5 ((zbj f g).map Coe.enc))]]:=by
 refine zlJ MS0 fun ts hts ok hb c hN hp=>?_
 obtain⟨t,rfl⟩:=za6 hts
 unfold zhv
 simp
 refine gN (zdd f) ?_
 simp
 apply gI<;>intro h2
 ·simp at h2
  refine gN (zdd g) ?_
  simp
  apply gI<;>intro h3
  ·simp at h3
   exact fJ [0] [1] (by simp[zbj,h2,h3])
  ·simp at h3
   exact fJ [0] [1] (by simp[zbj,h2,h3])
 ·simp at h2
  exact fJ [0] [1] (by simp[zbj,h2])
end Go.Gr.P
