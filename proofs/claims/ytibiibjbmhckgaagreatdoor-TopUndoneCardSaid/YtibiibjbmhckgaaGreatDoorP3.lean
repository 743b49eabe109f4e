import Derived.Test.YtibiibjbmhckgaaGreatDoorP2
import Derived.Test.YtibiibjbmhckgaaGreatDoorRows
import Derived.Shelf.Sort.Plain
import Derived.Shelf.Strings.Trim
import Derived.Shelf.Small.Wraps
import Derived.Shelf.Strings.BuilderK
import Derived.Shelf.Utf8.RuneCount
import Derived.Shelf.Strconv.Itoa3
import Derived.Shelf.Strings.Shaped
import Derived.Shelf.GgClosure.StringsRunes
import Derived.Shelf.Strings.SplitShaped
import Derived.Shelf.Unicode.Decode
import Derived.Shelf.Strings.Runes
import Derived.Shelf.Strings.RuneCount
import Derived.Shelf.Strings.AsciiSet
import Derived.Shelf.Strings.Repeat
import Derived.Shelf.Slices.Clone
import Derived.Shelf.Slices.Cells
import Derived.Shelf.Slices.In.SortNone
import Derived.Shelf.Slices.Empties
import Derived.Shelf.SlicesE.Clone
import Derived.Shelf.SlicesE.DeleteFunc
import Derived.Shelf.SlSortCmp.NoneTotal
set_option linter.unusedVariables false
set_option linter.unusedSimpArgs false
namespace Go.Proofs.YtibiibjbmhckgaaGreatDoor
open Go Go.F6 Proofs.Tryz
def ti2:TI:=⟨.int .i64,1,8,[.int .i64 0],false,[]⟩
def nT:TI:=⟨.int .i64,1,8,[.int .i64 0],false,[]⟩
def ti4:TI:=⟨.bool,1,1,[.bool false],false,[]⟩
def ti5:TI:=⟨.int .u8,1,1,[.int .u8 0],false,[]⟩
def ti6:TI:=⟨.int .u8,1,1,[.int .u8 0],false,[]⟩
def ti7:TI:=⟨.struct #[⟨ "x",2,0,false,"","runtime",0⟩,⟨ "y",3,1,false,"","runtime",8⟩,⟨ "signed",4,2,false,"","runtime",16⟩,⟨ "code",6,3,false,"","runtime",17⟩],4,24,[.int .i64 0,.int .i64 0,.bool false,.int .u8 0],true,[]⟩
def ti8:TI:=⟨.struct #[⟨ "x",2,0,false,"","runtime",0⟩,⟨ "y",3,1,false,"","runtime",8⟩,⟨ "signed",4,2,false,"","runtime",16⟩,⟨ "code",6,3,false,"","runtime",17⟩],4,24,[.int .i64 0,.int .i64 0,.bool false,.int .u8 0],true,[]⟩
def ti9:TI:=⟨.string,1,16,[.string ⟨#[]⟩],false,[]⟩
def do4:TI:=⟨.string,1,16,[.string ⟨#[]⟩],false,[]⟩
def do6:TI:=⟨.string,1,16,[.string ⟨#[]⟩],false,[]⟩
def do8:TI:=⟨.int .u64,1,8,[.int .u64 0],false,[]⟩
def do9:TI:=⟨.struct #[⟨ "msg",9,0,false,"","runtime",0⟩,⟨ "addr",12,1,false,"","runtime",16⟩],2,24,[.string ⟨#[]⟩,.int .u64 0],true,[]⟩
def dp1:TI:=⟨.struct #[⟨ "msg",9,0,false,"","runtime",0⟩,⟨ "addr",12,1,false,"","runtime",16⟩],2,24,[.string ⟨#[]⟩,.int .u64 0],true,[]⟩
def dp9:TI:=⟨.struct #[⟨ "typ",17,0,false,"","internal/runtime/maps",0⟩],1,8,[.pointer none],true,[]⟩
def dq2:TI:=⟨.struct #[⟨ "typ",17,0,false,"","internal/runtime/maps",0⟩],1,8,[.pointer none],true,[]⟩
def bX1:TI:=⟨.int .i32,1,4,[.int .i32 0],false,[]⟩
def at7:TI:=⟨.slice 33,1,24,[.slice none 0 0],false,[12]⟩
def au0:TI:=⟨.slice 3,1,24,[.slice none 0 0],false,[1]⟩
def bY5:TI:=⟨.int .i64,1,8,[.int .i64 0],false,[]⟩
def dq6:TI:=⟨.struct #[⟨ "Office",3,0,false,"","",0⟩,⟨ "Accession",3,1,false,"","",8⟩,⟨ "Number",3,2,false,"","",16⟩],3,24,[.int .i64 0,.int .i64 0,.int .i64 0],true,[]⟩
def bZ4:TI:=⟨.struct #[⟨ "Office",3,0,false,"","",0⟩,⟨ "Accession",3,1,false,"","",8⟩,⟨ "Number",3,2,false,"","",16⟩],3,24,[.int .i64 0,.int .i64 0,.int .i64 0],true,[]⟩
def dq7:TI:=⟨.struct #[⟨ "ID",3,0,false,"","",0⟩,⟨ "Day",3,1,false,"","",8⟩,⟨ "Kind",3,2,false,"","",16⟩,⟨ "Unit",3,3,false,"","",24⟩,⟨ "Parent",3,4,false,"","",32⟩,⟨ "Before",3,5,false,"","",40⟩,⟨ "Level",3,6,false,"","",48⟩,⟨ "Title",9,7,false,"","",56⟩,⟨ "Mark",9,8,false,"","",72⟩,⟨ "Origin",31,9,false,"","",88⟩],12,112,[.int .i64 0,.int .i64 0,.int .i64 0,.int .i64 0,.int .i64 0,.int .i64 0,.int .i64 0,.string ⟨#[]⟩,.string ⟨#[]⟩,.int .i64 0,.int .i64 0,.int .i64 0],true,[]⟩
def FI:TI:=⟨.struct #[⟨ "ID",3,0,false,"","",0⟩,⟨ "Day",3,1,false,"","",8⟩,⟨ "Kind",3,2,false,"","",16⟩,⟨ "Unit",3,3,false,"","",24⟩,⟨ "Parent",3,4,false,"","",32⟩,⟨ "Before",3,5,false,"","",40⟩,⟨ "Level",3,6,false,"","",48⟩,⟨ "Title",9,7,false,"","",56⟩,⟨ "Mark",9,8,false,"","",72⟩,⟨ "Origin",31,9,false,"","",88⟩],12,112,[.int .i64 0,.int .i64 0,.int .i64 0,.int .i64 0,.int .i64 0,.int .i64 0,.int .i64 0,.string ⟨#[]⟩,.string ⟨#[]⟩,.int .i64 0,.int .i64 0,.int .i64 0],true,[]⟩
def au1:TI:=⟨.slice 52,1,24,[.slice none 0 0],false,[6]⟩
def dq8:TI:=⟨.struct #[⟨ "Roots",26,0,false,"","",0⟩,⟨ "Branches",34,1,false,"","",24⟩],2,48,[.slice none 0 0,.slice none 0 0],true,[1,6]⟩
def bZ5:TI:=⟨.struct #[⟨ "Roots",26,0,false,"","",0⟩,⟨ "Branches",34,1,false,"","",24⟩],2,48,[.slice none 0 0,.slice none 0 0],true,[1,6]⟩
def au3:TI:=⟨.map 9 3,1,8,[.map none],false,[]⟩
def dq9:TI:=⟨.map 9 4,1,8,[.map none],false,[]⟩
def dr4:TI:=⟨.struct #[⟨ "ID",3,0,false,"","",0⟩,⟨ "Parent",3,1,false,"","",8⟩,⟨ "Level",3,2,false,"","",16⟩,⟨ "Title",9,3,false,"","",24⟩,⟨ "Mark",9,4,false,"","",40⟩],5,56,[.int .i64 0,.int .i64 0,.int .i64 0,.string ⟨#[]⟩,.string ⟨#[]⟩],true,[]⟩
def b06:TI:=⟨.struct #[⟨ "ID",3,0,false,"","",0⟩,⟨ "Parent",3,1,false,"","",8⟩,⟨ "Level",3,2,false,"","",16⟩,⟨ "Title",9,3,false,"","",24⟩,⟨ "Mark",9,4,false,"","",40⟩],5,56,[.int .i64 0,.int .i64 0,.int .i64 0,.string ⟨#[]⟩,.string ⟨#[]⟩],true,[]⟩
def dr5:TI:=⟨.struct #[⟨ "Unit",50,0,false,"","",0⟩,⟨ "Kids",26,5,false,"","",56⟩],6,80,[.int .i64 0,.int .i64 0,.int .i64 0,.string ⟨#[]⟩,.string ⟨#[]⟩,.slice none 0 0],true,[0,0,0,0,0,1]⟩
def vN:TI:=⟨.struct #[⟨ "Unit",50,0,false,"","",0⟩,⟨ "Kids",26,5,false,"","",56⟩],6,80,[.int .i64 0,.int .i64 0,.int .i64 0,.string ⟨#[]⟩,.string ⟨#[]⟩,.slice none 0 0],true,[0,0,0,0,0,1]⟩
def dr6:TI:=⟨.slice 58,1,24,[.slice none 0 0],false,[2]⟩
def dr7:TI:=⟨.struct #[⟨ "Mark",9,0,false,"","",0⟩,⟨ "Unit",3,1,false,"","",16⟩],2,24,[.string ⟨#[]⟩,.int .i64 0],true,[]⟩
def dr8:TI:=⟨.struct #[⟨ "Mark",9,0,false,"","",0⟩,⟨ "Unit",3,1,false,"","",16⟩],2,24,[.string ⟨#[]⟩,.int .i64 0],true,[]⟩
def dp4:TI:=⟨.pointer 525,1,8,[.pointer none],false,[]⟩
def dp6:TI:=⟨.pointer 528,1,8,[.pointer none],false,[]⟩
def dp7:TI:=⟨.pointer 535,1,8,[.pointer none],false,[]⟩
def b07:TI:=⟨.slice 9,1,24,[.slice none 0 0],false,[1]⟩
def b08:TI:=⟨.slice 259,1,24,[.slice none 0 0],false,[4]⟩
def b09:TI:=⟨.slice 264,1,24,[.slice none 0 0],false,[5]⟩
def b21:TI:=⟨.slice 268,1,24,[.slice none 0 0],false,[6]⟩
def b23:TI:=⟨.slice 254,1,24,[.slice none 0 0],false,[5]⟩
def b24:TI:=⟨.slice 148,1,24,[.slice none 0 0],false,[4]⟩
def ds4:TI:=⟨.struct #[⟨ "Languages",60,0,false,"","",0⟩,⟨ "Lists",61,1,false,"","",24⟩,⟨ "Accessions",62,2,false,"","",48⟩,⟨ "Log",22,3,false,"","",72⟩,⟨ "Authorities",63,4,false,"","",96⟩,⟨ "Relations",64,5,false,"","",120⟩,⟨ "Values",65,6,false,"","",144⟩,⟨ "Changed",3,7,false,"","",168⟩],8,176,[.slice none 0 0,.slice none 0 0,.slice none 0 0,.slice none 0 0,.slice none 0 0,.slice none 0 0,.slice none 0 0,.int .i64 0],true,[1,4,5,12,6,5,4]⟩
def b26:TI:=⟨.struct #[⟨ "Languages",60,0,false,"","",0⟩,⟨ "Lists",61,1,false,"","",24⟩,⟨ "Accessions",62,2,false,"","",48⟩,⟨ "Log",22,3,false,"","",72⟩,⟨ "Authorities",63,4,false,"","",96⟩,⟨ "Relations",64,5,false,"","",120⟩,⟨ "Values",65,6,false,"","",144⟩,⟨ "Changed",3,7,false,"","",168⟩],8,176,[.slice none 0 0,.slice none 0 0,.slice none 0 0,.slice none 0 0,.slice none 0 0,.slice none 0 0,.slice none 0 0,.int .i64 0],true,[1,4,5,12,6,5,4]⟩
def ds6:TI:=⟨.struct #[⟨ "ID",3,0,false,"","",0⟩,⟨ "Day",3,1,false,"","",8⟩,⟨ "Kind",3,2,false,"","",16⟩,⟨ "Numbers",26,3,false,"","",24⟩,⟨ "Texts",60,4,false,"","",48⟩],5,72,[.int .i64 0,.int .i64 0,.int .i64 0,.slice none 0 0,.slice none 0 0],true,[0,0,0,1,1]⟩
def b29:TI:=⟨.struct #[⟨ "ID",3,0,false,"","",0⟩,⟨ "Day",3,1,false,"","",8⟩,⟨ "Kind",3,2,false,"","",16⟩,⟨ "Numbers",26,3,false,"","",24⟩,⟨ "Texts",60,4,false,"","",48⟩],5,72,[.int .i64 0,.int .i64 0,.int .i64 0,.slice none 0 0,.slice none 0 0],true,[0,0,0,1,1]⟩
def b30:TI:=⟨.slice 71,1,24,[.slice none 0 0],false,[5]⟩
def au4:TI:=⟨.slice 134,1,24,[.slice none 0 0],false,[4]⟩
def b31:TI:=⟨.func #[92,33] #[27] false,1,8,[.nilFunc],false,[]⟩
def ds8:TI:=⟨.pointer 98,1,8,[.pointer none],false,[]⟩
def b33:TI:=⟨.map 3 90,1,8,[.map none],false,[]⟩
def ds9:TI:=⟨.struct #[⟨ "t",36,0,false,"","archivum/rearrange",0⟩],2,48,[.slice none 0 0,.slice none 0 0],true,[1,6]⟩
def b34:TI:=⟨.struct #[⟨ "t",36,0,false,"","archivum/rearrange",0⟩],2,48,[.slice none 0 0,.slice none 0 0],true,[1,6]⟩
def dt0:TI:=⟨.pointer 104,1,8,[.pointer none],false,[]⟩
def do5:TI:=⟨.struct #[⟨ "l",22,0,false,"","archivum/undo",0⟩,⟨ "t",36,1,false,"","archivum/undo",24⟩,⟨ "came",75,3,false,"","archivum/undo",72⟩,⟨ "owns",47,4,false,"","archivum/undo",96⟩],5,104,[.slice none 0 0,.slice none 0 0,.slice none 0 0,.slice none 0 0,.map none],true,[12,1,6,4]⟩
def bV1:TI:=⟨.struct #[⟨ "l",22,0,false,"","archivum/undo",0⟩,⟨ "t",36,1,false,"","archivum/undo",24⟩,⟨ "came",75,3,false,"","archivum/undo",72⟩,⟨ "owns",47,4,false,"","archivum/undo",96⟩],5,104,[.slice none 0 0,.slice none 0 0,.slice none 0 0,.slice none 0 0,.map none],true,[12,1,6,4]⟩
def bV2:TI:=⟨.int .u64,1,8,[.int .u64 0],false,[]⟩
def bV3:TI:=⟨.pointer 115,1,8,[.pointer none],false,[]⟩
def bV4:TI:=⟨.slice 5,1,24,[.slice none 0 0],false,[1]⟩
def do7:TI:=⟨.struct #[⟨ "addr",112,0,false,"","strings",0⟩,⟨ "buf",113,1,false,"","strings",8⟩],2,32,[.pointer none,.slice none 0 0],true,[0,1]⟩
def bV5:TI:=⟨.struct #[⟨ "addr",112,0,false,"","strings",0⟩,⟨ "buf",113,1,false,"","strings",8⟩],2,32,[.pointer none,.slice none 0 0],true,[0,1]⟩
def bV6:TI:=⟨.func #[36,3] #[27] false,1,8,[.nilFunc],false,[]⟩
def dp0:TI:=⟨.struct #[⟨ "Unit",3,0,false,"","",0⟩,⟨ "Origin",31,1,false,"","",8⟩],4,32,[.int .i64 0,.int .i64 0,.int .i64 0,.int .i64 0],true,[]⟩
def FH:TI:=⟨.struct #[⟨ "Unit",3,0,false,"","",0⟩,⟨ "Origin",31,1,false,"","",8⟩],4,32,[.int .i64 0,.int .i64 0,.int .i64 0,.int .i64 0],true,[]⟩
def bV7:TI:=⟨.func #[134] #[4] false,1,8,[.nilFunc],false,[]⟩
def dp2:TI:=⟨.struct #[⟨ "b",115,0,false,"","archivum/describe",0⟩],2,32,[.pointer none,.slice none 0 0],true,[0,1]⟩
def bV8:TI:=⟨.struct #[⟨ "b",115,0,false,"","archivum/describe",0⟩],2,32,[.pointer none,.slice none 0 0],true,[0,1]⟩
def dp3:TI:=⟨.struct #[⟨ "Unit",3,0,false,"","",0⟩,⟨ "Element",3,1,false,"","",8⟩,⟨ "Language",9,2,false,"","",16⟩,⟨ "Text",9,3,false,"","",32⟩],4,48,[.int .i64 0,.int .i64 0,.string ⟨#[]⟩,.string ⟨#[]⟩],true,[]⟩
def bV9:TI:=⟨.struct #[⟨ "Unit",3,0,false,"","",0⟩,⟨ "Element",3,1,false,"","",8⟩,⟨ "Language",9,2,false,"","",16⟩,⟨ "Text",9,3,false,"","",32⟩],4,48,[.int .i64 0,.int .i64 0,.string ⟨#[]⟩,.string ⟨#[]⟩],true,[]⟩
def bW0:TI:=⟨.map 50 3,1,8,[.map none],false,[]⟩
def bW1:TI:=⟨.func #[26] #[26] false,1,8,[.nilFunc],false,[]⟩
def at6:TI:=⟨.map 3 4,1,8,[.map none],false,[]⟩
def bW2:TI:=⟨.pointer 52,1,8,[.pointer none],false,[]⟩
def dp5:TI:=⟨.pointer 26,1,8,[.pointer none],false,[]⟩
def dp8:TI:=⟨.int .u32,1,4,[.int .u32 0],false,[]⟩
def bW3:TI:=⟨.int .u64,1,8,[.int .u64 0],false,[]⟩
def bW4:TI:=⟨.pointer 5,1,8,[.pointer none],false,[]⟩
def bW5:TI:=⟨.func #[188,71] #[27] false,1,8,[.nilFunc],false,[]⟩
def dq0:TI:=⟨.struct #[⟨ "numbers",3,0,false,"","archivum/holdings",0⟩,⟨ "texts",3,1,false,"","archivum/holdings",8⟩,⟨ "do",181,2,false,"","archivum/holdings",16⟩],3,24,[.int .i64 0,.int .i64 0,.nilFunc],true,[]⟩
def bW6:TI:=⟨.struct #[⟨ "numbers",3,0,false,"","archivum/holdings",0⟩,⟨ "texts",3,1,false,"","archivum/holdings",8⟩,⟨ "do",181,2,false,"","archivum/holdings",16⟩],3,24,[.int .i64 0,.int .i64 0,.nilFunc],true,[]⟩
def bW7:TI:=⟨.map 3 183,1,8,[.map none],false,[]⟩
def dq1:TI:=⟨.pointer 191,1,8,[.pointer none],false,[]⟩
def dq3:TI:=⟨.struct #[⟨ "Holdings",67,0,true,"","",0⟩],8,176,[.slice none 0 0,.slice none 0 0,.slice none 0 0,.slice none 0 0,.slice none 0 0,.slice none 0 0,.slice none 0 0,.int .i64 0],true,[1,4,5,12,6,5,4]⟩
def bW8:TI:=⟨.struct #[⟨ "Holdings",67,0,true,"","",0⟩],8,176,[.slice none 0 0,.slice none 0 0,.slice none 0 0,.slice none 0 0,.slice none 0 0,.slice none 0 0,.slice none 0 0,.int .i64 0],true,[1,4,5,12,6,5,4]⟩
def bW9:TI:=⟨.func #[3,3] #[4] false,1,8,[.nilFunc],false,[]⟩
def bX0:TI:=⟨.struct #[⟨ "Tree",36,0,true,"","",0⟩,⟨ "languages",60,2,false,"","archivum/inherit",48⟩,⟨ "values",65,3,false,"","archivum/inherit",72⟩],4,96,[.slice none 0 0,.slice none 0 0,.slice none 0 0,.slice none 0 0],true,[1,6,1,4]⟩
def bX3:TI:=⟨.slice 34,1,24,[.slice none 0 0],false,[1]⟩
def bX4:TI:=⟨.slice 125,1,24,[.slice none 0 0],false,[1]⟩
def dq4:TI:=⟨.int .i64,1,8,[.int .i64 0],false,[]⟩
def bX5:TI:=⟨.unsafePointer,1,8,[.pointer none],false,[]⟩
def bX6:TI:=⟨.struct #[⟨ "From",3,0,false,"","",0⟩,⟨ "Until",3,1,false,"","",8⟩],2,16,[.int .i64 0,.int .i64 0],true,[]⟩
def bX7:TI:=⟨.struct #[⟨ "Unit",3,0,false,"","",0⟩,⟨ "Role",3,1,false,"","",8⟩,⟨ "Authority",3,2,false,"","",16⟩,⟨ "In",252,3,false,"","",24⟩],5,40,[.int .i64 0,.int .i64 0,.int .i64 0,.int .i64 0,.int .i64 0],true,[]⟩
def bX8:TI:=⟨.slice 273,1,24,[.slice none 0 0],false,[7]⟩
def bX9:TI:=⟨.struct #[⟨ "ID",3,0,false,"","",0⟩,⟨ "Office",3,1,false,"","",8⟩,⟨ "Day",3,2,false,"","",16⟩,⟨ "Items",257,3,false,"","",24⟩],4,48,[.int .i64 0,.int .i64 0,.int .i64 0,.slice none 0 0],true,[0,0,0,7]⟩
def bY0:TI:=⟨.slice 277,1,24,[.slice none 0 0],false,[3]⟩
def bY1:TI:=⟨.slice 280,1,24,[.slice none 0 0],false,[2]⟩
def bY2:TI:=⟨.struct #[⟨ "ID",3,0,false,"","",0⟩,⟨ "List",3,1,false,"","",8⟩,⟨ "Day",3,2,false,"","",16⟩,⟨ "Received",261,3,false,"","",24⟩,⟨ "Agreed",262,4,false,"","",48⟩],5,72,[.int .i64 0,.int .i64 0,.int .i64 0,.slice none 0 0,.slice none 0 0],true,[0,0,0,3,2]⟩
def bY3:TI:=⟨.slice 284,1,24,[.slice none 0 0],false,[3]⟩
def bY4:TI:=⟨.struct #[⟨ "ID",3,0,false,"","",0⟩,⟨ "Kind",3,1,false,"","",8⟩,⟨ "In",252,2,false,"","",16⟩,⟨ "Names",266,4,false,"","",32⟩,⟨ "Next",26,5,false,"","",56⟩],6,80,[.int .i64 0,.int .i64 0,.int .i64 0,.int .i64 0,.slice none 0 0,.slice none 0 0],true,[0,0,0,0,3,1]⟩
def bY6:TI:=⟨.struct #[⟨ "First",3,0,false,"","",0⟩,⟨ "Last",3,1,false,"","",8⟩],2,16,[.int .i64 0,.int .i64 0],true,[]⟩
def bY7:TI:=⟨.struct #[⟨ "Number",3,0,false,"","",0⟩,⟨ "File",3,1,false,"","",8⟩,⟨ "Title",9,2,false,"","",16⟩,⟨ "Dating",271,3,false,"","",32⟩,⟨ "Pages",3,5,false,"","",48⟩,⟨ "Digest",9,6,false,"","",56⟩],7,72,[.int .i64 0,.int .i64 0,.string ⟨#[]⟩,.int .i64 0,.int .i64 0,.int .i64 0,.string ⟨#[]⟩],true,[]⟩
def dq5:TI:=⟨.struct #[⟨ "Number",3,0,false,"","",0⟩,⟨ "Pages",3,1,false,"","",8⟩,⟨ "Digest",9,2,false,"","",16⟩],3,32,[.int .i64 0,.int .i64 0,.string ⟨#[]⟩],true,[]⟩
def bY8:TI:=⟨.struct #[⟨ "Number",3,0,false,"","",0⟩,⟨ "Pages",3,1,false,"","",8⟩,⟨ "Digest",9,2,false,"","",16⟩],3,32,[.int .i64 0,.int .i64 0,.string ⟨#[]⟩],true,[]⟩
def bY9:TI:=⟨.struct #[⟨ "Kind",3,0,false,"","",0⟩,⟨ "Number",3,1,false,"","",8⟩],2,16,[.int .i64 0,.int .i64 0],true,[]⟩
def bZ0:TI:=⟨.struct #[⟨ "Text",9,0,false,"","",0⟩,⟨ "In",252,1,false,"","",16⟩],3,32,[.string ⟨#[]⟩,.int .i64 0,.int .i64 0],true,[]⟩
def bZ1:TI:=⟨.slice 26,1,24,[.slice none 0 0],false,[1]⟩
def bZ2:TI:=⟨.slice 27,1,24,[.slice none 0 0],false,[1]⟩
def bZ3:TI:=⟨.struct #[⟨ "word",9,0,false,"","archivum/element",0⟩,⟨ "inherited",4,1,false,"","archivum/element",16⟩,⟨ "levels",3,2,false,"","archivum/element",24⟩],3,32,[.string ⟨#[]⟩,.bool false,.int .i64 0],true,[]⟩
def bZ6:TI:=⟨.array 256 4,256,256,[.bool false,.bool false,.bool false,.bool false,.bool false,.bool false,.bool false,.bool false,.bool false,.bool false,.bool false,.bool false,.bool false,.bool false,.bool false,.bool false,.bool false,.bool false,.bool false,.bool false,.bool false,.bool false,.bool false,.bool false,.bool false,.bool false,.bool false,.bool false,.bool false,.bool false,.bool false,.bool false,.bool false,.bool false,.bool false,.bool false,.bool false,.bool false,.bool false,.bool false,.bool false,.bool false,.bool false,.bool false,.bool false,.bool false,.bool false,.bool false,.bool false,.bool false,.bool false,.bool false,.bool false,.bool false,.bool false,.bool false,.bool false,.bool false,.bool false,.bool false,.bool false,.bool false,.bool false,.bool false,.bool false,.bool false,.bool false,.bool false,.bool false,.bool false,.bool false,.bool false,.bool false,.bool false,.bool false,.bool false,.bool false,.bool false,.bool false,.bool false,.bool false,.bool false,.bool false,.bool false,.bool false,.bool false,.bool false,.bool false,.bool false,.bool false,.bool false,.bool false,.bool false,.bool false,.bool false,.bool false,.bool false,.bool false,.bool false,.bool false,.bool false,.bool false,.bool false,.bool false,.bool false,.bool false,.bool false,.bool false,.bool false,.bool false,.bool false,.bool false,.bool false,.bool false,.bool false,.bool false,.bool false,.bool false,.bool false,.bool false,.bool false,.bool false,.bool false,.bool false,.bool false,.bool false,.bool false,.bool false,.bool false,.bool false,.bool false,.bool false,.bool false,.bool false,.bool false,.bool false,.bool false,.bool false,.bool false,.bool false,.bool false,.bool false,.bool false,.bool false,.bool false,.bool false,.bool false,.bool false,.bool false,.bool false,.bool false,.bool false,.bool false,.bool false,.bool false,.bool false,.bool false,.bool false,.bool false,.bool false,.bool false,.bool false,.bool false,.bool false,.bool false,.bool false,.bool false,.bool false,.bool false,.bool false,.bool false,.bool false,.bool false,.bool false,.bool false,.bool false,.bool false,.bool false,.bool false,.bool false,.bool false,.bool false,.bool false,.bool false,.bool false,.bool false,.bool false,.bool false,.bool false,.bool false,.bool false,.bool false,.bool false,.bool false,.bool false,.bool false,.bool false,.bool false,.bool false,.bool false,.bool false,.bool false,.bool false,.bool false,.bool false,.bool false,.bool false,.bool false,.bool false,.bool false,.bool false,.bool false,.bool false,.bool false,.bool false,.bool false,.bool false,.bool false,.bool false,.bool false,.bool false,.bool false,.bool false,.bool false,.bool false,.bool false,.bool false,.bool false,.bool false,.bool false,.bool false,.bool false,.bool false,.bool false,.bool false,.bool false,.bool false,.bool false,.bool false,.bool false,.bool false,.bool false,.bool false,.bool false,.bool false,.bool false,.bool false,.bool false,.bool false,.bool false,.bool false,.bool false,.bool false,.bool false,.bool false,.bool false],true,[]⟩
def bZ7:TI:=⟨.array 9 305,27,288,[.string ⟨#[]⟩,.bool false,.int .i64 0,.string ⟨#[]⟩,.bool false,.int .i64 0,.string ⟨#[]⟩,.bool false,.int .i64 0,.string ⟨#[]⟩,.bool false,.int .i64 0,.string ⟨#[]⟩,.bool false,.int .i64 0,.string ⟨#[]⟩,.bool false,.int .i64 0,.string ⟨#[]⟩,.bool false,.int .i64 0,.string ⟨#[]⟩,.bool false,.int .i64 0,.string ⟨#[]⟩,.bool false,.int .i64 0],true,[]⟩
def bZ8:TI:=⟨.map 3 457,1,8,[.map none],false,[]⟩
def bZ9:TI:=⟨.pointer 273,1,8,[.pointer none],false,[]⟩
def b03:TI:=⟨.pointer 277,1,8,[.pointer none],false,[]⟩
def b04:TI:=⟨.struct #[⟨ "item",454,0,false,"","archivum/accession",0⟩,⟨ "got",455,1,false,"","archivum/accession",8⟩],2,16,[.pointer none,.pointer none],true,[]⟩
def tab:Tab:=[(2,ti2),(3,nT),(4,ti4),(5,ti5),(6,ti6),(7,ti7),(8,ti8),(9,ti9),(10,do4),(11,do6),(12,do8),(13,do9),(14,dp1),(18,dp9),(19,dq2),(21,bX1),(22,at7),(26,au0),(27,bY5),(30,dq6),(31,bZ4),(32,dq7),(33,FI),(34,au1),(35,dq8),(36,bZ5),(47,au3),(48,dq9),(49,dr4),(50,b06),(51,dr5),(52,vN),(54,dr6),(57,dr7),(58,dr8),(15,dp4),(16,dp6),(17,dp7),(60,b07),(61,b08),(62,b09),(63,b21),(64,b23),(65,b24),(66,ds4),(67,b26),(70,ds6),(71,b29),(72,b30),(75,au4),(90,b31),(92,ds8),(93,b33),(97,ds9),(98,b34),(99,dt0),(103,do5),(104,bV1),(108,bV2),(112,bV3),(113,bV4),(114,do7),(115,bV5),(125,bV6),(133,dp0),(134,FH),(136,bV7),(144,dp2),(145,bV8),(147,dp3),(148,bV9),(149,bW0),(152,bW1),(154,at6),(156,bW2),(159,dp5),(174,dp8),(177,bW3),(180,bW4),(181,bW5),(182,dq0),(183,bW6),(185,bW7),(188,dq1),(190,dq3),(191,bW8),(193,bW9),(206,bX0),(217,bX3),(230,bX4),(237,dq4),(245,bX5),(252,bX6),(254,bX7),(257,bX8),(259,bX9),(261,bY0),(262,bY1),(264,bY2),(266,bY3),(268,bY4),(271,bY6),(273,bY7),(276,dq5),(277,bY8),(280,bY9),(284,bZ0),(293,bZ1),(296,bZ2),(305,bZ3),(367,bZ6),(376,bZ7),(453,bZ8),(454,bZ9),(455,b03),(457,b04)]
theorem b50{P:Program}:∀{T:Tab},(T.map λx=>P.underlying x.1)=(T.map λx=>some x.2.desc)->(T.map λx=>(P.info? x.1).map λj=>(j.size,j.bytes))=(T.map λx=>some (x.2.size,x.2.bytes))->
 (T.map λx=>(P.info? x.1).bind λj=>j.zero)=(T.map λx=>some (O7 x.2))->(T.all λx=>(x.2.isAgg==VO x.2.desc&&x.2.zero.all λz=>z.oneCell')&&(x.2.zero.length==x.2.size&&(x.2.isAgg || x.2.size==1)))=true->X9 P T
 |[],_,_,_,_=>dt8 _
 |(t,i)::r,h1,h2,h3,h4=>by
  injection h1 with a1 b1
  injection h2 with a2 b2
  injection h3 with a3 b3
  simp only[List.all_cons,X3,beq_iff_eq,Bool.or_eq_true]at h4;obtain⟨⟨⟨q1,q2⟩,q3,q4⟩,b4⟩:=h4;exact dt7 ⟨a1,a2,a3,q1,q2,q3,λh=>q4.resolve_left (by rw[h];exact Bool.noConfusion)⟩ (b50 b1 b2 b3 b4)
set_option maxRecDepth 20000 in
theorem L8:X9 prog tab:=b50 (by kernel_rfl) (by kernel_rfl) (by kernel_rfl) (by kernel_rfl)
theorem rE:N8 prog 3 nT:=L8 3 nT rfl
theorem UC:N8 prog 4 ti4:=L8 4 ti4 rfl
theorem ac0:N8 prog 9 ti9:=L8 9 ti9 rfl
theorem ab7:N8 prog 22 at7:=L8 22 at7 rfl
theorem aY2:N8 prog 26 au0:=L8 26 au0 rfl
theorem ab8:N8 prog 33 FI:=L8 33 FI rfl
theorem au9:N8 prog 34 au1:=L8 34 au1 rfl
theorem ab9:N8 prog 47 au3:=L8 47 au3 rfl
theorem vO:N8 prog 52 vN:=L8 52 vN rfl
theorem UD:N8 prog 75 au4:=L8 75 au4 rfl
theorem UA:N8 prog 134 FH:=L8 134 FH rfl
theorem AQ:N8 prog 154 at6:=L8 154 at6 rfl
theorem mixed:prog.follows .mixedOrders=true:=by kernel_rfl
end Go.Proofs.YtibiibjbmhckgaaGreatDoor
section
namespace Go
abbrev C9:=@And.intro
abbrev U7:=@List.length_map
abbrev gB:=@of_decide_eq_true
abbrev kS:=@eq_of_beq
abbrev oC:=@MapKept.run_getObj_map
abbrev vV:=@List.getElem?_set
abbrev GU:=@MapKept.run_setObj_map
abbrev NG:=@Array.getElem?_append_left
end Go
namespace Go.F6
open Go Go.RowKit
section
variable{P:Program}{G:World->Prop}
theorem lK{c:Call}{ty:TypeId}{fo:Operand}(hc:c.callee=.value fo){f:FuncId}{caps l7:List SV}{os os':List (Nat×D9)}{r:SV}{fs:SV}
 (hfs:fs=.Q7 (.fn f) caps\/∃cs:List CV,fs=.c (.fn f cs)/\caps=cs.map SV.c) (h:fD P G f (l7++caps) os r os'):dN P G (.call c) ty (fs::l7) os r os':=by
 obtain⟨⟨fn,hfn,hnm,hbd⟩,h⟩:=h;intro Z w Eo a o next Q ho hty hg hz hl hargs hgs hnext
 obtain⟨dst,op,type,pos,after,guard⟩:=o;simp only at ho hty;subst ho;subst hty;have hops:(Op.call c).operands=#[fo]++c.args:=by simp[Op.operands,Call.operands,hc]
 rw[hops]at hl hargs;have hfv:=hargs 0 fs fo rfl (by rw[NG (Nat.zero_lt_one)];rfl);have hcap:∃cv:List Value,a.eval fo=.func (.func f) #[] cv.toArray/\caps.length=cv.length/\∀(i:Nat)(s:SV)(x:Value),caps[i]?=some s->cv[i]?=some x->N7 Z w (G9 os) Eo s x:=by
  generalize a.eval fo=y at hfv;rcases hfs with hfs|⟨cs,hfs,hcs⟩
  .subst hfs;cases hfv with
   |Q7 _ _ vs _ hl hh=>exact⟨vs,rfl,hl,hh⟩
  .subst hfs;subst hcs;cases hfv with
   |c _ _ hr=>
    cases hr with
    |fn _ _ vs hl hh=>
     refine⟨vs,rfl,by simpa using hl,λi s x h1 h2=>?_⟩;rw[O6]at h1;cases hk:cs[i]? with
     |none=>grind
     |some c0=>rw[hk]at h1;simp at h1;subst h1;exact .c _ _ (hh i c0 x hk h2)
 obtain⟨cv,hcv,hcl,hcr⟩:=hcap;have hal:l7.length=c.args.toList.length:=by grind
 have yZ:=h Z w Eo (c.args.toList.map a.eval++cv) hg hz (by simp;simp at hal;omega) (λi s x h1 h2=>by
  rcases eG i l7.length with hlt|hge
  .rw[bV hlt]at h1;rw[bV (by simp;simp at hal;omega),O6]at h2;cases hk:c.args.toList[i]? with
   |none=>grind
   |some op=>
    rw[hk]at h2;simp at h2;subst h2;refine hargs (i+1) s op (by simpa using h1) ?_
    grind
  .rw[bJ hge]at h1;rw[bJ (by simp;simp at hal;omega)]at h2;simp only[U7]at h2;rw[<-hal]at h2
   exact hcr _ s x h1 h2) hgs
 have uN:c.args.map a.eval++cv.toArray=((c.args.toList.map a.eval)++cv).toArray:=by grind
 have hrun:(execOp a.eval ⟨dst,.call c,type,pos,after,guard⟩).run P w=.ok (.enter f (c.args.toList.map a.eval++cv).toArray) w:=by
  simp only[execOp,resolve,hc,Deferred.ofValue,hcv,invoke,callFunc,I7,Q5,N9,Array.empty_append,uN];have hnm':¬(fn.name= "runtime.NumGoroutine"):=by grind
  have uO:¬(fn.body=none):=λe=>by grind
  simp[Go.program,Sem.run,hfn,hnm',uO]
 refine MW (λ_ h=>nomatch h) ?_;unfold Oper.wp;rw[hrun];simp only[Oper.upon];refine yZ.mono ?_
 grind
end
def fG:I5:=λ_=>(0,.none)
def DY:List SV->Nat->SV
 |[],_=>.any
 |c::_,0=>c
 |_::r,t+1=>DY r t
def jE(j:Nat):Nat:=sig 0 (65536+j)
def nR(mv:List Nat)(j:Nat):Nat:=bif mv.any (Nat.beq j)then sig 0 (32768+j)else jE j
def as8(mv:List Nat):Nat->Nat->List (Nat×Nat)
 |_,0=>[]
 |k,n+1=>(nR mv k,0)::as8 mv (k+1) n
abbrev pJ(mv:List Nat)(n:Nat):List (Nat×Nat):=as8 mv 0 n
theorem aX5{mv:List Nat}:∀(n k i:Nat),i<n->(as8 mv k n)[i]?=some (nR mv (k+i),0)
 |0,_,_,h=>absurd h (Nat.not_lt_zero _)
 |n+1,k,0,_=>rfl
 |n+1,k,i+1,h=>by
  simp only[as8,List.getElem?_cons_succ];rw[aX5 n (k+1) i (by omega),show k+1+i=k+(i+1) by omega]
def ai4(mv:List Nat)(args:List SV)(os:List (Nat×D9)):St:=⟨λt=>wZ fG 0 65536 (pJ mv os.length) (DY args t),upd fG (aG fG 0 65536 (pJ mv os.length) 0 os)⟩
def qH(γ:List Nat)(j:Nat):Nat:=γ.getD j 1
def aj1(n:Nat)(ρ:List (Nat×Nat))(γ:List Nat):Bool:=
 (List.range ρ.length).all λj=> !(Nat.beq (qH γ j) 0) || (Nat.blt j n&&(match ρ[j]? with|some (t,g)=>Nat.beq t (jE j)&&Nat.beq g 0|.none=>false))
def clr:SV->SV
 |.kt=>.c (.v (.bool true))
 |.kf=>.c (.v (.bool false))
 |.ap _ _ sz es=>.c (.sl sz es)
 |s=>s
theorem bj2{Z:Zone}{w:World}{obj:I5}{E:Nat->Value}{s:SV}{x:Value}(h:N7 Z w obj E s x):N7 Z w obj E (clr s) x:=by
 cases h with
 |kt=>exact .c _ _ (.v _)
 |kf=>exact .c _ _ (.v _)
 |ap _ _ _ _ _ h _ _=>exact .c _ _ h
 |any=>exact .any _
 |un=>exact .un
 |c _ _ h=>exact .c _ _ h
 |pm t g off x hs hg h=>exact .pm t g off x hs hg h
 |Q7 f caps vs hf hl h=>exact .Q7 f caps vs hf hl h
 |rs t g x hs hg h=>exact .rs t g x hs hg h
 |aC cs vs hl h ha=>exact .aC cs vs hl h ha
 |eF cs vs hl h ha=>exact .eF cs vs hl h ha
 |pe t g n off x hg h=>exact .pe t g n off x hg h
 |mr t g x hs hg h=>exact .mr t g x hs hg h
def svC:SV->Option CV
 |.c c=>bif c.atom then some c else .none
 |.rs t g=>some (.rs t g)
 |.mr t g=>some (.mr t g)
 |.pm t g off=>some (.pr t g off)
 |_=>.none
def LM(st:St):List ResultVar->Option (List CV)
 |[]=>some []
 |.tmp t::r=>match svC (clr (st.env t)),LM st r with
  |some c,some cs=>some (c::cs)
  |_,_=>.none
 |_::_=>.none
theorem dn1{Z:Zone}{w:World}{obj:I5}{E:Nat->Value}{s:SV}{x:Value}{c:CV}(h:N7 Z w obj E s x)(hc:svC s=some c):X5 Z w obj E c x/\c.atom=true:=by
 cases h with
 |c c' x h=>
  simp only[svC]at hc;cases ha:c'.atom with
  |true=>rw[ha]at hc;simp at hc;subst hc;exact⟨.one (.cl h),ha⟩
  |false=>grind
 |rs t g x hs hg h=>simp only[svC,Z9]at hc;subst hc;exact⟨.one (.rs t g x hs hg h),rfl⟩
 |mr t g x hs hg h=>simp only[svC,Z9]at hc;subst hc;exact⟨.one (.mr t g x hs hg h),rfl⟩
 |pm t g off x hs hg h=>simp only[svC,Z9]at hc;subst hc;exact⟨.one (.pr t g off x hs hg h),rfl⟩
 |_=>simp[svC]at hc
def aC7(T:Tab)(st:St)(rs:List ResultVar)(ρ:List (Nat×Nat))(γ:Nat->Nat):Option SV:=
 match rs with
 |[.tmp t]=>ZU ρ γ (clr (st.env t))
 |[.cell x t]=>match T.get t,st.env x with
  |some i,.pm s g off=>match st.obj s with
   |(g',.var cs)=>bif Nat.beq g g' then(part i cs off).map SV.c else .none
   |_=>.none
  |_,_=>.none
 |rs=>match jG T st rs with
  |some cs=>some (.c (.P7 cs))
  |.none=>match LM st rs with
   |some cs=>(fP ρ γ cs).map SV.eF
   |.none=>.none
def aH(T:Tab)(rs:List ResultVar)(n:Nat)(r:SV)(os':List (Nat×D9))(st:St):Prop:=
 ∃(ρ:List (Nat×Nat)) (γ:List Nat),(nO (ρ.map (·.1))&&Nat.ble n ρ.length&&aj1 n ρ γ)=true/\oV ρ (qH γ) st.obj 0 ρ=some os'/\aC7 T st rs ρ (qH γ)=some r
def PD(T:Tab)(rs:List ResultVar)(n:Nat)(mv:List Nat)(r:SV)(os':List (Nat×D9))(st:St):Prop:=
 ∃(ρ:List (Nat×Nat)) (γ:List Nat),(nO (ρ.map (·.1))&&Nat.ble n ρ.length&&aj1 n ρ γ&&(List.range ρ.length).all λj=> !(Nat.beq (qH γ j) 0) || !(mv.any (Nat.beq j)))=true/\oV ρ (qH γ) st.obj 0 ρ=some os'/\aC7 T st rs ρ (qH γ)=some r
def bl7(T:Tab)(rs:List ResultVar)(n:Nat)(mv:List Nat)(r:SV)(os':List (Nat×D9))(e:Exit)(st:St):Prop:=
 match e with
 |.ret=>PD T rs n mv r os' st
 |.normal=>PD T rs n mv r os' st
 |_=>False
def cv4(T:Tab)(rs:List ResultVar)(n:Nat)(r:SV)(os':List (Nat×D9))(e:Exit)(st:St):Prop:=
 match e with
 |.ret=>aH T rs n r os' st
 |.normal=>aH T rs n r os' st
 |_=>False
theorem YR(j:Nat):Nat.blt (jE j) PIN=false:=by
 cases hb:Nat.blt (jE j) PIN with
 |false=>rfl
 |true=>
  have:=dJ hb;unfold jE sig PIN at this;omega
theorem dg4{mv:List Nat}{n i j:Nat}(hn:n<32768)(hi:i<n)(hj:j<n)(h:nR mv i=nR mv j):i=j:=by
 unfold nR at h;cases JX:mv.any (Nat.beq i)<;>cases hmj:mv.any (Nat.beq j)<;>rw[JX,hmj]at h<;>simp only[H7,G6,jE,sig]at h<;>omega
theorem yD{mv:List Nat}{n j:Nat}(hj:j<n):U1 0 65536 (pJ mv n) j=nR mv j:=by
 unfold U1;rw[aX5 n 0 j hj,V7]
theorem OC{mv:List Nat}{n j:Nat}(k:Nat)(hj:j<n):bW fG 0 65536 (pJ mv n) j k=k:=by
 unfold bW;rw[aX5 n 0 j hj]
 grind
theorem bC2{mv:List Nat}{n:Nat}(hn:n<32768):∀(os:List (Nat×D9))(k:Nat),k+os.length<=n->nO ((aG fG 0 65536 (pJ mv n) k os).map (·.1))=true
 |[],_,_=>rfl
 |(g,o)::r,k,hk=>by
  simp only[pR]at hk;simp only[aG,kP,nO];have:List.any ((aG fG 0 65536 (pJ mv n) (k+1) r).map (·.1)) (Nat.beq (U1 0 65536 (pJ mv n) k))=false:=by
   rw[BM];intro x hx hb;have he:=F8 hb;obtain⟨i,hi⟩:=List.mem_iff_getElem?.1 hx;have hlt:i<r.length:=by
    have:=(O4.1 hi).1;simp only[U7]at this;have hl:∀(os:List (Nat×D9))(k:Nat),(aG fG 0 65536 (pJ mv n) k os).length=os.length:=by
     intro os;induction os with
     |nil=>intro k;rfl
     |cons p q ih=>intro k;obtain⟨a,b⟩:=p;simp[aG,ih]
    grind
   rw[MK r (k+1) i hlt]at hi;injection hi with hi
   rw[yD (by omega)]at hi he;have:=dg4 hn (by omega) (by omega) (he.trans hi.symm);omega
  rw[this];exact bC2 hn r (k+1) (by omega)
section
variable{P:Program}{G:World->Prop}{T:Tab}
theorem aJ3{Z:Zone}{w:World}{obj:I5}{E:Nat->Value}:∀(args:List SV)(vs:List Value)(k:Nat),args.length=vs.length->(∀(i:Nat)(s:SV)(x:Value),args[i]?=some s->vs[i]?=some x->N7 Z w obj E s x)->
 ∀t,N7 Z w obj E (DY args t) ((vs++List.replicate k undef).getD t undef)
 |[],vs,k,hl,h,t=>.any _
 |s::r,[],k,hl,h,t=>by simp at hl
 |s::r,x::vs,k,hl,h,0=>h 0 s x rfl rfl
 |s::r,x::vs,k,hl,h,t+1=>by
  simpa[DY]using aJ3 r vs k (by simpa using hl) (λi s x h1 h2=>h (i+1) s x (by simpa using h1) (by simpa using h2)) t
theorem aJ2{n:Nat}:∀(args:List SV),args.all (lV n)=true->∀t,lV n (DY args t)=true
 |[],_,_=>rfl
 |s::r,h,0=>by simp only[List.all_cons,X3]at h;exact h.1
 |s::r,h,t+1=>by simp only[List.all_cons,X3]at h;exact aJ2 r h.2 t
def qP(mv:List Nat)(os:List (Nat×D9)):I5:=upd fG (aG fG 0 65536 (pJ mv os.length) 0 os)
def mX(Eo:Nat->Value):Nat->Value:=λs=>Eo (bif Nat.blt s PIN then s/65536-32768 else s/65536-65536)
def EO(os:List (Nat×D9)):Bool:=os.all (λo=>EK os.length o.2&&Nat.beq o.1 0)
theorem aP9{os:List (Nat×D9)}(h:EO os=true):∀(j g:Nat)(o:D9),os[j]?=some (g,o)->EK os.length o=true/\g=0:=λj g o hj=>by
 have:=wC h hj;simp only[X3]at this;exact⟨this.1,F8 this.2⟩
theorem cZ9{os:List (Nat×D9)}(h:EO os=true)(j:Nat):(G9 os j).1=0:=by
 unfold G9;cases hj:os[j]? with
 |none=>rfl
 |some p=>exact(aP9 h j p.1 p.2 hj).2
theorem GL(Eo:Nat->Value)(mv:List Nat){j:Nat}(hj:j<32768):mX Eo (nR mv j)=Eo j:=by
 unfold nR;cases mv.any (Nat.beq j)with
 |true=>
  have hlt:Nat.blt (sig 0 (32768+j)) PIN=true:=by
   have:sig 0 (32768+j)<PIN:=by unfold sig PIN;omega
   exact Nat.ble_eq_true_of_le this
  have he:sig 0 (32768+j)/65536-32768=j:=by unfold sig;omega
  simp only[H7,mX,hlt,he]
 |false=>
  have he:jE j/65536-65536=j:=by unfold jE sig;omega
  simp only[G6,mX,YR,he]
theorem aO8{mv:List Nat}{os:List (Nat×D9)}(hn:os.length<32768):∀(j g:Nat)(o:D9),os[j]?=some (g,o)->qP mv os (nR mv j)=(g,cZ fG 0 65536 (pJ mv os.length) o):=λj g o hj=>by
 have hlt:j<os.length:=(O4.1 hj).1;have:=a04 (fG:=fG) os 0 j g o (bC2 (mv:=mv) hn os 0 (by omega)) hj;rw[V7,yD hlt,OC _ hlt]at this;exact this
theorem bF1(mv:List Nat)(os:List (Nat×D9))(s:Nat):(∃j,j<os.length/\s=nR mv j)\/qP mv os s=(0,.none):=by
 by_cases hs:∃j,j<os.length/\s=nR mv j
 .grind
 .exact .inr (a05 (obj:=fG) (d:=0) (off:=65536) (τ:=pJ mv os.length) (fG:=fG) os 0 s (λj hj=>by rw[V7,yD hj];exact λe=>hs ⟨j,hj,e⟩))
theorem az0{mv:List Nat}{os:List (Nat×D9)}(hn:os.length<32768)(Eo:Nat->Value):Back fG 0 65536 (pJ mv os.length) os Eo (qP mv os) (mX Eo):=⟨λj g o hj=>by
 have hlt:j<os.length:=(O4.1 hj).1
 exact⟨by rw[yD hlt,OC _ hlt];exact aO8 hn j g o hj,by rw[yD hlt];exact GL Eo mv (by omega)⟩⟩
theorem aO9{mv:List Nat}{os:List (Nat×D9)}(hn:os.length<32768){Eo:Nat->Value}:∀s b,(qP mv os s).2.blk (mX Eo s) b->∃j,j<os.length/\s=nR mv j/\(G9 os j).2.blk (Eo j) b:=λs b hb=>by
 rcases bF1 mv os s with⟨j,hj,rfl⟩|hs
 .refine⟨j,hj,rfl,?_⟩;have hoj:os[j]?=some (os[j].1,os[j].2):=I9 hj;rw[aO8 hn j _ _ hoj,GL Eo mv (by omega),bE3]at hb;unfold G9
  grind
 .grind
theorem bm4{mv:List Nat}{Z:Zone}{w:World}{os:List (Nat×D9)}{Eo:Nat->Value}{n:Nat}{a:Act}{e:Nat->SV}(hg:rJ Z w os Eo)(hz:∀b o,Z b o->b<w.heap.size)(hgs:∀w',Kept (SG w os Eo) w w'->G w')(hos:EO os=true)(hmv:os.length<32768)
 (hd:a.defers=[]) (hn:a.tmps.size=n) (hlt:∀t,lV os.length (e t)=true) (he:∀t,N7 Z w (G9 os) Eo (e t) (a.tmps.getD t undef)):
 Inv G ⟨Z,qP mv os,mX Eo⟩ w (SG w os Eo) n Z (mX Eo) ⟨λt=>wZ fG 0 65536 (pJ mv os.length) (e t),qP mv os⟩ a w:=
 { gs:=hgs
   slt:=λ_ h=>h.1
   below:=Kept.refl _ _
   defers:=by rw[hd];trivial
   sz:=hn
   U4:=hz
   keeps:=Keeps.refl _ _
   pin:=xZ.refl _ _
   fB:=λ_ _ h=>.inl h
   env:=λt=>(he t).back (az0 hmv Eo) (hlt t)
   obj:=λs=>by
    show U6 Z w (qP mv os) (mX Eo) (mX Eo s) (qP mv os s).2;rcases bF1 mv os s with⟨j,hj,rfl⟩|hs
    .have hoj:os[j]?=some (os[j].1,os[j].2):=I9 hj;rw[aO8 hmv j _ _ hoj,GL Eo mv (by omega)];have:=hg.ok j;unfold G9 at this;rw[hoj]at this;exact this.back (az0 hmv Eo) (aP9 hos j _ _ hoj).1
    .rw[hs];trivial
   own:=λs b hb=>by
    obtain⟨j,_,_,hj⟩:=aO9 hmv s b hb;exact λh=>h.2 ⟨j,hj⟩
   apart:=λs s' b hne h1 h2=>by
    obtain⟨j,_,e1,hj⟩:=aO9 hmv s b h1;obtain⟨j',_,e2,hj'⟩:=aO9 hmv s' b h2
    exact hg.apart j j' b (λe=>hne (by rw[e1,e2,e])) hj hj' }
def bp7(mv:List Nat)(ρ:List (Nat×Nat))(γ:List Nat):Bool:=(List.range ρ.length).all λj=> !(Nat.beq (qH γ j) 0) || !(mv.any (Nat.beq j))
theorem bn8{mv:List Nat}{Z:Zone}{w:World}{os os':List (Nat×D9)}{Eo:Nat->Value}{n:Nat}{Z':Zone}{E':Nat->Value}{st':St}{a':Act}{w':World}{ρ:List (Nat×Nat)}{γ:List Nat}
 (hos:EO os=true) (hmv:os.length<32768) (hI':Inv G ⟨Z,qP mv os,mX Eo⟩ w (SG w os Eo) n Z' E' st' a' w') (V6:(nO (ρ.map (·.1))&&Nat.ble os.length ρ.length&&aj1 os.length ρ γ&&bp7 mv ρ γ)=true) (XE:oV ρ (qH γ) st'.obj 0 ρ=some os'):
 ∃Er,Match ρ (qH γ) st'.obj E' (G9 os') Er/\∀r x,N7 Z' w' (G9 os') Er r x->pK Z w os Eo Z' w' os' Er r x:=by
 have dL8:=aP9 hos;have WY:=cZ9 hos;have B:=az0 (mv:=mv) hmv Eo;simp only[X3]at V6;obtain⟨⟨⟨hnd,hlen⟩,cG0⟩,cG1⟩:=V6;have hlen:=H6 hlen;obtain⟨hol,hoa⟩:=aQ0 XE
 let Er:Nat->Value:=λj=>match ρ[j]? with|some (t,_)=>E' t|none=>undef
 have hEr:∀j t g,ρ[j]?=some (t,g)->Er j=E' t:=λj t g h=>by grind
 have M:Match ρ (qH γ) st'.obj E' (G9 os') Er:=⟨λj t g hj=>by
  obtain⟨h1,o',h2,h3⟩:=hoa j t g hj;rw[V7]at h3
  exact⟨h1,o',h2,by unfold G9;rw[h3],hEr j t g hj⟩⟩
 have hnone:∀j,ρ[j]?=none->G9 os' j=(0,.none):=λj hj=>by
  have:os'[j]?=none:=rM (by rw[hol];exact ad7.1 hj);unfold G9;rw[this]
 have hb':∀j b,(G9 os' j).2.blk (Er j) b->∃t g,ρ[j]?=some (t,g)/\(st'.obj t).2.blk (E' t) b:=λj b hb=>by
  cases hj:ρ[j]? with
  |none=>grind
  |some p=>
   obtain⟨t,g⟩:=p;obtain⟨h1,o',h2,h3,h4⟩:=M.at_ j t g hj;rw[h3,h4,bE6 h2]at hb
   grind
 have zB:∀j o,G9 os' j=(0,o)->o≠.none->nR mv j=jE j/\j<os.length/\ρ[j]?=some (jE j,0)/\Er j=E' (jE j)/\(st'.obj (jE j)).1=0/\eY ρ (qH γ) (st'.obj (jE j)).2=some o:=λj o ho hne=>by
  cases hj:ρ[j]? with
  |none=>grind
  |some p=>
   obtain⟨t,g⟩:=p;obtain⟨h1,o',h2,h3,h4⟩:=M.at_ j t g hj;rw[h3]at ho;simp only[dI]at ho;obtain⟨hg0,rfl⟩:=ho;have hc:=nZ.1 cG0 j (List.mem_range.2 (O4.1 hj).1);rw[hg0,hj]at hc;simp only[Nat.beq_refl,fC,Bool.false_or,X3]at hc;have e1:=F8 hc.2.1;have e2:=F8 hc.2.2;subst e1;subst e2;have hm:=nZ.1 cG1 j (List.mem_range.2 (O4.1 hj).1);rw[hg0]at hm;simp only[Nat.beq_refl,fC,Bool.false_or]at hm;have bt4:nR mv j=jE j:=by
    unfold nR;cases hq:mv.any (Nat.beq j)with
    |true=>grind
    |false=>rfl
   exact⟨bt4,dJ hc.1,rfl,h4,h1,h2⟩
 have hpost:∀r x,N7 Z' w' (G9 os') Er r x->pK Z w os Eo Z' w' os' Er r x:=λr x hx=>
  { res:=hx
    grp:=⟨λj=>by
       cases hj:ρ[j]? with
       |none=>rw[hnone j hj];trivial
       |some p=>
        obtain⟨t,g⟩:=p;obtain⟨h1,o',h2,h3,h4⟩:=M.at_ j t g hj;rw[h3,h4];exact(hI'.obj t).tOz M h2,
     λj j' b hne h1 h2=>by
      obtain⟨t,g,q1,q2⟩:=hb' j b h1;obtain⟨t',g',q3,q4⟩:=hb' j' b h2;refine hI'.apart t t' b (λe=>hne ?_) q2 q4;refine am4 hnd j j' t ?_ ?_
      .grind
      .rw[O6,q3,e];rfl⟩
    keeps:=hI'.keeps
    U4:=hI'.U4
    fB:=λb o hz=>by
     rcases hI'.fB b o hz with h|h
     .exact .inl h
     .by_cases hlt:b<w.heap.size
      .by_cases hgb:GB os Eo b
       .grind
       .exact absurd ⟨hlt,hgb⟩ h
      .grind
    kept:=hI'.below
    own:=λb ⟨j,hj⟩=>by
     obtain⟨t,g,q1,q2⟩:=hb' j b hj;have h:=hI'.own t b q2;by_cases hlt:b<w.heap.size
     .by_cases hgb:GB os Eo b
      .grind
      .exact absurd ⟨hlt,hgb⟩ h
     .grind
    ok:=
     { gen:=λt=>by rw[WY];exact Y3 _
       var:=λt g hg hl=>by
        rw[WY]at hg;have:g=0:=Nat.le_zero.1 hg;subst this;obtain⟨cs,hl⟩:=hl;have:∃o,G9 os' t=(0,o)/\o≠.none/\(o=.var cs\/o=.ro cs\/o=.varx cs):=by grind
        obtain⟨o,q1,q2,q3⟩:=this;obtain⟨p0,p1,p2,p3,p4,p5⟩:=zB t o q1 q2;obtain⟨cs0,q6⟩:=bE9 p5 q3;have hlv:live st'.obj (jE t) 0:=by
         refine⟨cs0,?_⟩
         grind
        obtain⟨r1,r2⟩:=hI'.pin.var _ (YR t) hlv;refine⟨?_,by rw[p3,r2,<-p0];exact GL Eo mv (by omega)⟩;have:=B.live (k:=0) p1 (by rw[yD p1,OC _ p1,p0];exact r1);exact this
       tok:=λt g el s hg hl=>by
        rw[WY]at hg;have:g=0:=Nat.le_zero.1 hg;subst this;obtain⟨p0,p1,p2,p3,p4,p5⟩:=zB t _ hl (by simp);obtain⟨r1,r2⟩:=hI'.pin.tok _ el s (YR t) (Prod.ext p4 (bE8 p5 rfl));exact⟨B.tok p1 (by rw[yD p1,OC _ p1,p0];exact r1),by rw[p3,r2,<-p0];exact GL Eo mv (by omega)⟩
       arr:=λt g el sz ds D8 hg hl=>by
        rw[WY]at hg;have:g=0:=Nat.le_zero.1 hg;subst this;obtain⟨p0,p1,p2,p3,p4,p5⟩:=zB t _ hl (by simp);obtain⟨f0,q6⟩:=bE5 p5 rfl;obtain⟨⟨ds1,f1,r1⟩,r2⟩:=hI'.pin.arr _ el sz ds f0 (YR t) (Prod.ext p4 q6);obtain⟨f2,r3⟩:=B.arr p1 (by rw[yD p1,OC _ p1,p0];exact r1);exact⟨⟨ds1,f2,r3⟩,by rw[p3,r2,<-p0];exact GL Eo mv (by omega)⟩
       map:=λt g es hg hl=>by
        rw[WY]at hg;have:g=0:=Nat.le_zero.1 hg;subst this;obtain⟨p0,p1,p2,p3,p4,p5⟩:=zB t _ hl (by simp);obtain⟨⟨es0,r1⟩,r2⟩:=hI'.pin.map _ es (YR t) (Prod.ext p4 (bE7 p5 rfl))
        exact⟨⟨es0,B.map p1 (by rw[yD p1,OC _ p1,p0];exact r1)⟩,by rw[p3,r2,<-p0];exact GL Eo mv (by omega)⟩ }}
 grind
theorem bL5{G:World->Prop}{Z0:Base}{w0:World}{S:Nat->Prop}{n:Nat}{Z:Zone}{E:Nat->Value}{st:St}{a:Act}{w:World}(hI:Inv G Z0 w0 S n Z E st a w):∀(rs:List ResultVar)(cs:List CV),LM st rs=some cs->
 ∃vs,(rs.mapM (oZ a)).run P w=.ok vs w/\vs.length=rs.length/\cs.length=vs.length/\(∀(i:Nat)(c:CV)(x:Value),cs[i]?=some c->vs[i]?=some x->X5 Z w st.obj E c x)/\∀(i:Nat)(c:CV),cs[i]?=some c->c.atom=true
 |[],cs,h=>by simp[LM]at h;subst h;exact⟨[],by simp,rfl,rfl,λi c x h1=>by simp at h1,λi c h1=>by simp at h1⟩
 |.tmp t::rs,cs,h=>by
  simp only[LM]at h;split at h
  .rename_i c cs' h1 h2;simp at h;subst h;obtain⟨hr,ha⟩:=dn1 (bj2 (hI.env t)) h1;obtain⟨vs,q1,q2,q3,q4,q5⟩:=bL5 hI rs cs' h2;refine⟨a.tmps.getD t undef::vs,?_,by simp[q2],by simp[q3],λi c x h1 h2=>?_,λi c h1=>?_⟩
   .simp only[List.mapM_cons,I7,oZ,Q5,N9,q1]
   .grind
   .grind
  .simp at h
 |.cell _ _::_,cs,h=>by simp[LM]at h
theorem cw7(mv:List Nat)(hT:X9 P T)(hm:P.follows .mixedOrders=true){f:FuncId}{fn:Func}{code:Code}{args:List SV}{os os':List (Nat×D9)}{r:SV}(hf:P.funcs[f]?=some fn)(hname:(fn.name== "runtime.NumGoroutine")=false)(hb:fn.body=some code)(hn:args.length<=fn.ntmps)
 (hok:(EO os&&args.all (lV os.length)&&Nat.blt os.length 32768)=true)
 (h:dB (gX P G) T fn.ntmps code (bl7 T fn.results.toList os.length mv r os') (ai4 mv args os)):fD P G f args os r os':=by
 refine⟨⟨fn,hf,hname,by rw[hb];rfl⟩,?_⟩;intro Z w Eo vs hg hz hl hargs hgs;simp only[X3]at hok;obtain⟨⟨hos,has⟩,hmv⟩:=hok;have hmv:=dJ hmv;refine OH.1 (callsIn_of_wp_marks (F:=dG none) (n:=0) hf hb trivial ?_);have hvl:vs.length<=fn.ntmps:=by grind
 have hI:Inv G ⟨Z,qP mv os,mX Eo⟩ w (SG w os Eo) fn.ntmps Z (mX Eo) (ai4 mv args os) { tmps:=vs.toArray++Array.replicate (fn.ntmps-vs.toArray.size) undef,defers:=[] } w:=
  bm4 (e:=DY args) hg hz hgs hos hmv rfl (by simp;omega) (aJ2 args has) λt=>by
   have he:(vs.toArray++Array.replicate (fn.ntmps-vs.toArray.size) undef)=(vs++List.replicate (fn.ntmps-vs.length) undef).toArray:=by grind
   simp only[he];have hg':(vs++List.replicate (fn.ntmps-vs.length) undef).toArray.getD t undef=(vs++List.replicate (fn.ntmps-vs.length) undef).getD t undef:=by
    simp[aT,NQ]
   rw[hg'];exact aJ3 args vs _ hl hargs t
 refine aw3 hT hm code (.inl rfl) (λe Z' E' st' a' w' hk hI'=>?_) Z _ _ _ w hI h;have fin:∀w',Inv G ⟨Z,qP mv os,mX Eo⟩ w (SG w os Eo) fn.ntmps Z' E' st' { a' with defers:=[] } w'->PD T fn.results.toList os.length mv r os' st'->∃v,(results fn a'.tmps).run P w'=.ok v w'/\∃x eH aY,Ending.returned v=.returned x/\pK Z w os Eo eH w' os' aY r x:=by
  rintro w' hI' ⟨ρ,γ,V6,XE,hres⟩;obtain⟨Er,M,hpost⟩:=bn8 hos hmv hI' V6 XE;have closed:∀(v:Value)(c:CV),(results fn a'.tmps).run P w'=.ok v w'->Rep Z' w' c v->r=.c c->∃v,(results fn a'.tmps).run P w'=.ok v w'/\∃x eH aY,Ending.returned v=.returned x/\pK Z w os Eo eH w' os' aY r x:=
   λv c hv hr he=>⟨v,hv,v,Z',Er,rfl,hpost _ v (he▸ .c _ _ hr)⟩
  unfold aC7 at hres;split at hres
  .rename_i t hrs;refine⟨a'.tmps.getD t undef,SQ hrs rfl,_,Z',Er,rfl,hpost _ _ ((bj2 (hI'.env t)).tOz M hres)⟩
  .rename_i x t hrs;have hv:∃c,r=.c c/\zV T st' (.cell x t)=some c:=by
    clear closed hpost hk h;simp only[zV];split at hres
    .rename_i i s g off hT' hpm;rw[hT',hpm];split at hres
     .rename_i g' cs aH5;simp only[aH5];cases hbq:Nat.beq g g' with
      |true=>
       rw[hbq]at hres;simp only[H7]at hres⊢;cases hp:part i cs off with
       |none=>grind
       |some c=>grind
      |false=>grind
     .simp at hres
    .simp at hres
   obtain⟨c,hrc,hv⟩:=hv;obtain⟨v,hv',hr⟩:=aT2 hT hI' (r:=c) (by rw[hrs];exact hv)
   grind
  .rename_i hne1 hne2;cases ha:jG T st' fn.results.toList with
   |none=>
    rw[ha]at hres;simp only at hres;cases hs:LM st' fn.results.toList with
    |none=>grind
    |some cs=>
     rw[hs]at hres;simp only at hres;cases hkk:fP ρ (qH γ) cs with
     |none=>grind
     |some cs'=>
      rw[hkk]at hres;simp at hres;subst hres;obtain⟨vs,q1,q2,q3,q4,q5⟩:=bL5 (P:=P) hI' fn.results.toList cs hs;obtain⟨k1,k2⟩:=OU hkk;have hne:vs.length≠1:=λe=>by
       rw[q2]at e;obtain⟨rv,gV⟩:=List.length_eq_one_iff.1 e;cases rv with
       |tmp t=>grind
       |cell y t=>grind
      refine⟨_,aT1 q1 hne,_,Z',Er,rfl,hpost _ _ (.eF cs' vs (k1.trans q3) (λi c' x h1 h2=>?_) (λi c' h1=>?_))⟩
      .obtain⟨c,h3,h4⟩:=k2 i c' h1;exact(q4 i c x h3 h2).tOz M h4
      .obtain⟨c,h3,h4⟩:=k2 i c' h1;rw[VI h4];exact q5 i c h3
   |some cs=>
    rw[ha]at hres;simp at hres;have hv:ZA T st' fn.results.toList=some (.P7 cs):=by
     unfold ZA;split
     .rename_i x hx;cases x with
      |tmp t=>grind
      |cell y t=>grind
     .rw[ha];rfl
    obtain⟨v,hv',hr⟩:=aT2 hT hI' hv
    grind
 cases e with
 |normal=>exact XY a'.defers a' w' rfl hI' λw2 hI2=>fin w2 hI2 hk
 |ret=>exact XY a'.defers a' w' rfl hI' λw2 hI2=>fin w2 hI2 hk
 |exit id=>exact hk.elim
 |goto l=>exact hk.elim
 |panic ch=>exact hk.elim
 |outgrown=>exact hk.elim
theorem aD0(mv:List Nat)(hT:X9 P T)(hm:P.follows .mixedOrders=true){f:FuncId}{fn:Func}{code:Code}{args:List SV}{os os':List (Nat×D9)}{r:SV}(hf:P.funcs[f]?=some fn)(hname:(fn.name== "runtime.NumGoroutine")=false)(hb:fn.body=some code)(hn:args.length<=fn.ntmps)
 (hok:(EO os&&args.all (lV os.length)&&Nat.blt os.length 32768)=true)
 (h:bU (gX P G) T fn.ntmps code (bl7 T fn.results.toList os.length mv r os') (ai4 mv args os)):fD P G f args os r os':=by
 rw[mV]at h;exact cw7 mv hT hm hf hname hb hn hok h
abbrev cx4(args:List SV)(os:List (Nat×D9)):St:=ai4 [] args os
theorem rX(hT:X9 P T)(hm:P.follows .mixedOrders=true){f:FuncId}{fn:Func}{code:Code}{args:List SV}{os os':List (Nat×D9)}{r:SV}(hf:P.funcs[f]?=some fn)(hname:(fn.name== "runtime.NumGoroutine")=false)(hb:fn.body=some code)(hn:args.length<=fn.ntmps)
 (hok:(EO os&&args.all (lV os.length)&&Nat.blt os.length 32768)=true)
 (h:bU (gX P G) T fn.ntmps code (cv4 T fn.results.toList os.length r os') (cx4 args os)):fD P G f args os r os':=by
 refine aD0 [] hT hm hf hname hb hn hok ?_;rw[mV]at h⊢;refine aw2 code (λe st h=>?_) _ h
 have key:aH T fn.results.toList os.length r os' st->PD T fn.results.toList os.length [] r os' st:=λ⟨ρ,γ,h1,h2,h3⟩=>⟨ρ,γ,by
  simp only[X3]at h1⊢
  exact⟨h1,by simp⟩,h2,h3⟩
 cases e with
 |normal=>exact key h
 |ret=>exact key h
 |exit id=>exact h.elim
 |goto l=>exact h.elim
 |panic ch=>exact h.elim
 |outgrown=>exact h.elim
end
end Go.F6
namespace Go.F6
open Go Go.RowKit
def NJ(P:Program)(G:World->Prop)(l:Nat)(R:Loop)(env l7:List SV)(os:List (Nat×D9))(r:SV)(os':List (Nat×D9)):Prop:=
 ∀(Z:Zone)(w:World)(Eo:Nat->Value)(vs:List Value),rJ Z w os Eo->(∀b o,Z b o->b<w.heap.size)->l7.length=vs.length->
  (∀(i:Nat)(s:SV)(x:Value),l7[i]?=some s->vs[i]?=some x->N7 Z w (G9 os) Eo s x)->env.length=R.tmps.size->
  (∀(i:Nat)(s:SV)(x:Value),env[i]?=some s->R.tmps.toList[i]?=some x->N7 Z w (G9 os) Eo s x)->(∀w',Kept (SG w os Eo) w w'->G w')->
  RoundIn (dG none) 0 P l R.fn ((R.params.zip vs.toArray).foldl (λtmps (t,a)=>tmps.setIfInBounds t a) R.tmps) R.assign R.body w λe w'=>∃x Z' aY,e=.returned x/\pK Z w os Eo Z' w' os' aY r x
section
variable{P:Program}{G:World->Prop}{T:Tab}
theorem PG{c:Call}{ty:TypeId}{fo:Operand}(hc:c.callee=.value fo){l:Nat}{R:Loop}{env l7:List SV}{os os':List (Nat×D9)}{r:SV}(i0:Nat)(hi0:os[i0]?=some (0,.lp l R .on))(hps:l7.length=R.params.size)
 (h:NJ P G l R env l7 os r os'):dN P G (.call c) ty (.Q7 (.yl l R.tmps.toList) env::l7) os r os':=by
 intro Z w Eo a o next Q ho hty hg hz hl hargs hgs hnext
 obtain⟨dst,op,type,pos,after,guard⟩:=o;simp only at ho hty;subst ho;subst hty;have hops:(Op.call c).operands=#[fo]++c.args:=by simp[Op.operands,Call.operands,hc]
 rw[hops]at hl hargs;have hfv:=hargs 0 _ fo rfl (by rw[NG (Nat.zero_lt_one)];rfl);have hcv:a.eval fo=.func (.yield l) #[] #[]/\env.length=R.tmps.toList.length/\∀(i:Nat)(s:SV)(x:Value),env[i]?=some s->R.tmps.toList[i]?=some x->N7 Z w (G9 os) Eo s x:=by
  generalize a.eval fo=y at hfv;cases hfv with
  |Q7 _ _ vs hf hl hh=>
   have hv:vs=R.tmps.toList:=hf;subst hv;exact⟨rfl,hl,hh⟩
 obtain⟨hcv,hel,henv⟩:=hcv;have hrec:=hg.ok i0;have ho0:G9 os i0=(0,.lp l R .on):=by unfold G9;rw[hi0]
 rw[ho0]at hrec;obtain⟨hL,_⟩:=hrec;have hal:l7.length=c.args.toList.length:=by grind
 have hrnd:=h Z w Eo (c.args.toList.map a.eval) hg hz (by simpa using hal) (λi s x h1 h2=>by
  rw[O6]at h2;cases hk:c.args.toList[i]? with
  |none=>grind
  |some op=>
   rw[hk]at h2;simp at h2;subst h2;refine hargs (i+1) s op (by simpa using h1) ?_;rw[Array.getElem?_append_right (by simp)]
   simpa using hk) (by simpa using hel) henv hgs
 have uN:c.args.map a.eval=(c.args.toList.map a.eval).toArray:=by grind
 have hy:=run_yield (P:=P) (args:=(c.args.toList.map a.eval).toArray) hL (by simp[jU.put];simpa using hal.symm.trans hps);have hrun:(execOp a.eval ⟨dst,.call c,type,pos,after,guard⟩).run P w=.ok (.round l R.fn ((R.params.zip (c.args.toList.map a.eval).toArray).foldl (λtmps (t,a)=>tmps.setIfInBounds t a) R.tmps) R.assign R.body) w:=by
  simp only[execOp,resolve,hc,Deferred.ofValue,hcv,invoke,I7,Q5,N9,Array.empty_append,uN];exact hy
 intro ρ;refine⟨λ_ _=>trivial,?_⟩;rw[Oper.semAt_eq _ _ (⟨dst,.call c,type,pos,after,guard⟩:Oper) (λ_ h=>nomatch h),hrun];refine⟨λh=>absurd h (by simp[Fence.wide]),?_⟩;refine RoundIn.mono (F:=dG ρ) (n:=0) hrnd ?_
 grind
def uZ:Code->List (Array Nat×Code×Code)
 |.rangeFunc _ ps x y=>[(ps,x,y)]
 |.seq a b=>uZ a++uZ b
 |.cond _ a b=>uZ a++uZ b
 |.block _ a=>uZ a
 |.loop a=>uZ a
 |.scope a=>uZ a
 |_=>[]
def jA(l:List (Nat×SV)):Nat->Nat->List SV
 |0,_=>[]
 |k+1,t=>uU l t::jA l k (t+1)
def ax5(e:Nat->SV):List (Nat×SV)->Prop
 |[]=>True
 |(t,s)::r=>s=e t/\ax5 e r
theorem bA3{e:Nat->SV}:∀{l:List (Nat×SV)},ax5 e l->∀t,uU l t=.any\/uU l t=e t
 |[],_,_=>.inl rfl
 |(k,s)::r,⟨h1,h2⟩,t=>by
  simp only[uU];cases hb:Nat.beq k t with
  |true=>have:=F8 hb;subst this;exact .inr h1
  |false=>exact bA3 h2 t
theorem WG{e:Nat->SV}{l:List (Nat×SV)}(h:ax5 e l):∀k t,ai5 e t (jA l k t)
 |0,_=>trivial
 |k+1,t=>⟨bA3 h t,WG h k (t+1)⟩
def ZK:List Nat->List SV->(Nat->SV)->Nat->SV
 |p::ps,s::ss,e=>ZK ps ss (λt=>bif Nat.beq p t then s else e t)
 |_,_,e=>e
def bN0(mv:List Nat)(ps:List Nat)(l7 env:List SV)(os:List (Nat×D9)):St:=⟨λt=>wZ fG 0 65536 (pJ mv os.length) (ZK ps l7 (DY env) t),qP mv os⟩
theorem bM8{n:Nat}:∀(ps:List Nat)(l7:List SV)(e:Nat->SV),l7.all (lV n)=true->(∀t,lV n (e t)=true)->∀t,lV n (ZK ps l7 e t)=true
 |[],_,_,_,he,t=>he t
 |_::_,[],_,_,he,t=>he t
 |p::ps,s::ss,e,ha,he,t=>by
  simp only[List.all_cons,X3]at ha;refine bM8 ps ss _ ha.2 (λt'=>?_) t;cases Nat.beq p t' with
  |true=>exact ha.1
  |false=>exact he t'
theorem bM9{Z:Zone}{w:World}{obj:I5}{E:Nat->Value}{n:Nat}:∀(ps:List Nat)(l7:List SV)(vs:List Value)(e:Nat->SV)(tmps:Array Value),tmps.size=n->ps.all (λp=>Nat.blt p n)=true->l7.length=vs.length->
 (∀(i:Nat)(s:SV)(x:Value),l7[i]?=some s->vs[i]?=some x->N7 Z w obj E s x)->(∀t,N7 Z w obj E (e t) (tmps.getD t undef))->
 ∀t,N7 Z w obj E (ZK ps l7 e t) (((ps.zip vs).foldl (λ(tmps:Array Value) (p:Nat×Value)=>tmps.setIfInBounds p.1 p.2) tmps).getD t undef)
 |[],_,_,_,_,_,_,_,_,he,t=>he t
 |_::_,[],[],_,_,_,_,_,_,he,t=>he t
 |_::_,[],_::_,_,_,_,_,hl,_,_,_=>by simp at hl
 |_::_,_::_,[],_,_,_,_,hl,_,_,_=>by simp at hl
 |p::ps,s::ss,x::xs,e,tmps,hn,hp,hl,ha,he,t=>by
  simp only[List.all_cons,X3]at hp;simp only[List.zip_cons_cons,List.foldl_cons];refine bM9 ps ss xs _ (tmps.setIfInBounds p x) (by simpa using hn) hp.2 (by simpa using hl) (λi s' x' h1 h2=>ha (i+1) s' x' (by simpa using h1) (by simpa using h2)) (λt'=>?_) t;have hlt:p<tmps.size:=by rw[hn];exact dJ hp.1
  cases hb:Nat.beq p t' with
  |true=>
   have:=F8 hb;subst this;have:(tmps.setIfInBounds p x).getD p undef=x:=by simp[Array.getD,hlt]
   rw[this];exact ha 0 s x rfl rfl
  |false=>
   have hne:p≠t':=λh=>by subst h;simp at hb
   have:(tmps.setIfInBounds p x).getD t' undef=tmps.getD t' undef:=by
    rw[aT,aT,bc4 hne]
   grind
def wX(mv:List Nat)(i0 l:Nat)(R:Loop)(n:Nat)(r:SV)(os':List (Nat×D9))(q:jU)(b:Bool)(st:St):Prop:=
 st.obj (jE i0)=(0,.lp l R .busy)/\r=.c (.v (.bool b))/\∃(ρ:List (Nat×Nat)) (γ:List Nat),(nO (ρ.map (·.1))&&Nat.ble n ρ.length&&aj1 n ρ γ&&bp7 mv ρ γ)=true/\
   oV ρ (qH γ) (upd st.obj [(jE i0,(0,.lp l R q))]) 0 ρ=some os'
def da5(mv:List Nat)(i0 l:Nat)(R:Loop)(n:Nat)(r:SV)(os':List (Nat×D9))(e:Exit)(st:St):Prop:=
 match e with
 |.normal=>wX mv i0 l R n r os' .on true st
 |.ret=>wX mv i0 l R n r os' (.off .ret) false st
 |.exit id=>wX mv i0 l R n r os' (.off (.exit id)) false st
 |_=>False
def da4(H:iW)(T:Tab)(m:Nat)(body:Code)(mv:List Nat)(i0 l:Nat)(R:Loop)(n:Nat)(r:SV)(os':List (Nat×D9))(e:Exit)(st:St):Prop:=
 match e with
 |.normal=>st.obj (jE i0)=(0,.lp l R .on)/\bU H T m body (da5 mv i0 l R n r os') ⟨st.env,upd st.obj [(jE i0,(0,.lp l R .busy))]⟩
 |_=>False
section
variable{Z0:Base}{w0:World}{S:Nat->Prop}{n:Nat}{Z:Zone}{E:Nat->Value}{st:St}{a:Act}{w:World}
theorem Inv.turn(hI:Inv G Z0 w0 S n Z E st a w){s g l:Nat}{R:Loop}{q:jU}(q':jU)(ho:st.obj s=(g,.lp l R q)):
 Inv G Z0 w0 S n Z E ⟨st.env,upd st.obj [(s,(g,.lp l R q'))]⟩ a (w.putObj l (.loop (q'.put R))):=by
 have hob:=hI.obj s;have hown:=hI.own s;rw[ho]at hob hown;obtain⟨hL,hz⟩:=hob;have hs4:upd st.obj [(s,(g,.lp l R q'))] s=(g,.lp l R q'):=tC _ _ _;have hn4:∀t,t≠s->upd st.obj [(s,(g,.lp l R q'))] t=st.obj t:=λt ht=>sZ _ _ ht;have hoth:∀k,k≠l->(w.putObj l (.loop (q'.put R))).heap[k]?=w.heap[k]?:=λk hk=>gK hk;have:Inv G Z0 w0 S n Z E ⟨put st.env none .any,upd st.obj [(s,(g,.lp l R q'))]⟩ (a.put none undef) (w.putObj l (.loop (q'.put R))):=by
  refine hI.renew (·=s) (d:=none) (r:=.any) (x:=undef) rfl ?_ ?_ (λb o h=>by have:=hI.U4 b o h;simpa using this) (λ_ _ h=>.inl h) (λt ht=>⟨hn4 t ht,rfl⟩) ?_ ?_ ?_ ?_ ?_ (.any _)
  .refine⟨rfl,rfl,rfl,by simp,λk hk=>hoth k (λe=>hown l rfl (e▸hk)),λk hk=>(hoth k (λe=>?_)).trans hk⟩;rw[e,hL]at hk;exact nomatch hk
  .exact λb o hz'=>⟨hz',iH (hoth b (λe=>hz o (e▸hz')))⟩
  .rintro t rfl;rw[hs4,ho];exact .inr ⟨rfl,.inl (.inr ⟨_,_,_,rfl⟩)⟩
  .rintro _ t rfl;rw[hs4];exact⟨World.putObj_heap_same (V4.1 hL).1,hz⟩
  .intro t ht b' hb;have hne:b'≠l:=λe=>by
    subst e;exact hI.apart t s _ ht hb (by rw[ho]<;>rfl)
   grind
  .grind
  .grind
 exact this
end
theorem ai3(mv:List Nat)(hT:X9 P T)(hm:P.follows .mixedOrders=true){n l:Nat}{R:Loop}{ps:Array Nat}{ca cb:Code}{env l7:List SV}{os os':List (Nat×D9)}{r:SV}(i0:Nat)
 (hp:R.params=ps) (hca:R.assign=ca) (hcb:R.body=cb) (hn:R.tmps.size=n)
 (hok:(EO os&&env.all (lV os.length)&&l7.all (lV os.length)&&ps.toList.all (λp=>Nat.blt p n)&&cO ca&&cO cb&&Nat.blt os.length 32768)=true)
 (h:bU (gX P G) T n ca (da4 (gX P G) T n cb mv i0 l R os.length r os') (bN0 mv ps.toList l7 env os)):NJ P G l R env l7 os r os':=by
 simp only[X3]at hok;obtain⟨⟨⟨⟨⟨⟨hos,hev⟩,has⟩,hps⟩,hna⟩,hnb⟩,hmv⟩:=hok;have hmv:=dJ hmv;intro Z w Eo vs hg hz hl hargs hel henv hgs;rw[hca,hcb,hp];have hfold:((ps.zip vs.toArray).foldl (λtmps (t,a)=>tmps.setIfInBounds t a) R.tmps)=(ps.toList.zip vs).foldl (λ(tmps:Array Value) (p:Nat×Value)=>tmps.setIfInBounds p.1 p.2) R.tmps:=by
  rw[<-xG,Array.toList_zip]
 rw[hfold];generalize htm:(ps.toList.zip vs).foldl (λ(tmps:Array Value) (p:Nat×Value)=>tmps.setIfInBounds p.1 p.2) R.tmps=tm;have cJ3:∀(zs:List (Nat×Value))(t0:Array Value),(zs.foldl (λ(tmps:Array Value) (p:Nat×Value)=>tmps.setIfInBounds p.1 p.2) t0).size=t0.size:=by
  intro zs;induction zs with
  |nil=>grind
  |cons z zs ih=>grind
 have hI:Inv G ⟨Z,qP mv os,mX Eo⟩ w (SG w os Eo) n Z (mX Eo) (bN0 mv ps.toList l7 env os) { tmps:=tm,defers:=[] } w:=
  bm4 (e:=ZK ps.toList l7 (DY env)) hg hz hgs hos hmv rfl (by rw[<-htm];rw[cJ3];exact hn) (bM8 _ _ _ has (aJ2 env hev)) λt=>by
   rw[<-htm];refine bM9 ps.toList l7 vs _ R.tmps hn hps hl hargs (λt=>?_) t;have:=aJ3 env R.tmps.toList 0 (by simpa using hel) henv t;simpa[aT,NQ]using this
 refine roundIn_of_wpIn trivial ?_;rw[mV]at h;refine aw3 (ρ:=some l) hT hm ca (.inr hna) (λe Z' E' st' a' w' hk hI'=>?_) Z _ _ _ w hI h;cases e with
 |normal=>
  obtain⟨ho,hb⟩:=hk;have hL:=(hI'.obj (jE i0));rw[ho]at hL;have hbr:=run_beginRound (P:=P) hL.1 rfl;refine⟨_,hbr,?_⟩;have hI2:=hI'.turn .busy ho;rw[mV]at hb;refine aw3 (ρ:=some l) hT hm cb (.inr hnb) (λe Z2 E2 st2 a2 w2 hk2 DU=>?_) Z' _ _ _ _ hI2 hb;have fin:∀(q:jU)(b:Bool)(jump:Option Code),b=jump.isNone->jU.put R q={ jU.put R .busy with state:=if jump.isNone then .ready else .done,pending:=jump }->wX mv i0 l R os.length r os' q b st2->
   ∃v w',(Instr.endRound l jump).run P w2=.ok v w'/\∃x eH aY,Ending.returned v=.returned x/\pK Z w os Eo eH w' os' aY r x:=by
   intro q b jump hbj hq ⟨ho2,hr,ρ,γ,V6,XE⟩;have hL2:=DU.obj (jE i0);rw[ho2]at hL2;have her:=run_endRound (P:=P) jump hL2.1;rw[<-hq]at her;obtain⟨Er,M,hpost⟩:=bn8 hos hmv (DU.turn q ho2) V6 XE;refine⟨_,_,her,_,Z2,Er,rfl,hpost r _ ?_⟩;rw[hr,hbj];exact .c _ _ (.v _)
  cases e with
  |normal=>exact fin .on true none rfl rfl hk2
  |ret=>exact fin (.off .ret) false (some .ret) rfl rfl hk2
  |exit id=>exact fin (.off (.exit id)) false (some (.exit id)) rfl rfl hk2
  |goto t=>exact hk2.elim
  |panic ch=>exact hk2.elim
  |outgrown=>exact hk2.elim
 |exit id=>exact hk.elim
 |goto t=>exact hk.elim
 |ret=>exact hk.elim
 |panic ch=>exact hk.elim
 |outgrown=>exact hk.elim
end
end Go.F6
namespace Go.F6
open Go Go.RowKit
def bM{α β:Type}[BEq α]:List (α×β)->α->Option β
 |[],_=>.none
 |p::r,x=>bif x==p.1 then some p.2 else bM r x
def bZ{α β:Type}[BEq α]:List (α×β)->α->β->List (α×β)
 |[],x,v=>[(x,v)]
 |p::r,x,v=>bif x==p.1 then(x,v)::r else p::bZ r x v
structure xO{α:Type}[BEq α](d:TypeDesc)(kc:α->Value):Prop where
 key:∀a,MapKept.IsKey d (kc a)
 same:∀a b,Instr.sameNow d (kc a) (kc b)=some (a==b)
 bits:∀a b,(a==b)=true->Instr.sameBits 10000 (kc b) (kc a)=true
def zG(k:IntKind)(a:Int):Value:=.int k a
def Y4(s:List UInt8):Value:=.string ⟨⟨s⟩⟩
theorem uS(k:IntKind):xO (.int k) (zG k) where
 key _:=rfl
 same a b:=by simp[Instr.sameNow,zG]
 bits a b h:=by simp at h;subst h;simp[Instr.sameBits,zG]
theorem VF(a b:List UInt8):((⟨⟨a⟩⟩:ByteArray)==⟨⟨b⟩⟩)=(a==b):=by
 cases h:a==b with
 |true=>have:=kS h;subst this;exact(MapKept.bytes_beq _ _).2 rfl
 |false=>
  cases h':((⟨⟨a⟩⟩:ByteArray)==⟨⟨b⟩⟩)with
  |false=>rfl
  |true=>
   have:=(MapKept.bytes_beq _ _).1 h'
   grind
theorem XT:xO .string Y4 where
 key _:=trivial
 same a b:=by simp[Instr.sameNow,Y4,VF]
 bits a b h:=by have:=kS h;subst this;simp[Instr.sameBits,Y4,VF]
def bd2(Z:Zone)(w:World)(es:List (CV×CV))(v:Value):Prop:=
 (v=.map none/\es=[])\/∃b arr clock,v=.map (some b)/\w.heap[b]?=some (.map arr clock)/\es.length=arr.size/\
   ∀(i:Nat)(k u:CV)(m:MapEntry),es[i]?=some (k,u)->arr[i]?=some m->Rep Z w k m.key/\Rep Z w u m.val
abbrev U2{α β:Type}(kc:α->Value)(ev:β->CV)(m:List (α×β)):List (CV×CV):=m.map λp=>(CV.v (kc p.1),ev p.2)
section
variable{P:Program}{G:World->Prop}{Z:Zone}{w:World}{α β:Type}[BEq α]{d:TypeDesc}{kc:α->Value}
theorem find_spec(hd:xO d kc)(x:α):∀(m:List (α×β))(l:List MapEntry)(n:Nat),m.length=l.length->(∀(i:Nat)(p:α×β)(e:MapEntry),m[i]?=some p->l[i]?=some e->e.key=kc p.1)->
 (Instr.findNow d (kc x) l n=some none/\bM m x=.none/\∀v,bZ m x v=m++[(x,v)])\/
 ∃i p e,m[i]?=some p/\l[i]?=some e/\(x==p.1)=true/\Instr.findNow d (kc x) l n=some (some (n+i,e.val))/\bM m x=some p.2/\∀v,bZ m x v=m.set i (x,v)
 |[],l,n,hl,_=>by
  have:l=[]:=by grind
  subst this;exact .inl ⟨rfl,rfl,λ_=>rfl⟩
 |p::r,[],n,hl,_=>by simp at hl
 |p::r,e::l,n,hl,h=>by
  have hk:=h 0 p e rfl rfl;have hs:=hd.same x p.1;cases hb:x==p.1 with
  |true=>
   rw[hb,<-hk]at hs;exact .inr ⟨0,p,e,rfl,rfl,hb,by simp[Instr.findNow,hs],by simp[bM,hb],λv=>by simp[bZ,hb]⟩
  |false=>
   rw[hb,<-hk]at hs;rcases find_spec hd x r l (n+1) (by simpa using hl) (λi p' e' h1 h2=>h (i+1) p' e' (by simpa using h1) (by simpa using h2))with⟨h1,h2,h3⟩|⟨i,p',e',h1,h2,h3,h4,h5,h6⟩
   .exact .inl ⟨by simp[Instr.findNow,hs,h1],by simp[bM,hb,h2],λv=>by simp[bZ,hb,h3]⟩
   .exact .inr ⟨i+1,p',e',by simpa using h1,by simpa using h2,h3,by simp[Instr.findNow,hs,h4];omega,by simp[bM,hb,h5],λv=>by simp[bZ,hb,h6]⟩
def NC(i:TI):CV:=bif i.isAgg then .agg (nX i.zero i.ks)else(nX i.zero i.ks).headD (.v undef)
theorem dB1{t:Nat}{i:TI}(h:N8 P t i):Rep Z w (NC i) (O7 i):=by
 unfold NC O7;cases ha:i.isAgg with
 |true=>
  simp only[H7];refine .agg _ _ (ax0 _ _) (λj c x h1 h2=>?_) (λj c h1=>(ad3 (Z:=Z) (w:=w) h j c h1).1);obtain⟨_,y,h3,h4⟩:=ad3 (Z:=Z) (w:=w) h j c h1
  grind
 |false=>
  simp only[G6];have h1:=h.single ha;have h2:=h.len;cases hz:i.zero with
  |nil=>grind
  |cons z zs=>
   have hc:(nX i.zero i.ks)[0]?=some ((nX i.zero i.ks).headD (.v undef)):=by rw[hz];rfl
   obtain⟨_,y,h3,h4⟩:=ad3 (Z:=Z) (w:=w) h 0 _ hc
   grind
theorem bO3{t:Nat}{i:TI}(h:N8 P t i)(w:World):(zeroValue t).run P w=.ok (O7 i) w:=by
 obtain⟨j,hj,_,_,hz⟩:=h.eX;simp[zeroValue,typeInfo,hj,hz]
theorem db4{t kt et:TypeId}{i:TI}(ht:P.underlying t=some (.map kt et))(hkt:P.underlying kt=some d)(hd:xO d kc)(hi:N8 P et i){ev:β->CV}{z:β}(hz:NC i=ev z){m:List (α×β)}{v:Value}(hm:bd2 Z w (U2 kc ev m) v)(x:α)(ok:Bool):
 ∃u,(Instr.lookup t v (kc x) ok).run P w=.ok (if ok then .tuple #[u,.bool (bM m x).isSome]else u) w/\Rep Z w (ev ((bM m x).getD z)) u:=by
 have hck:∀b,(Instr.checkKey b 10000 kt (kc x)).run P w=.ok () w:=λb=>MapKept.run_checkKey hkt (hd.key x) b 9999;have fin:∀(arr:Array MapEntry),m.length=arr.size->(∀(i:Nat)(p:α×β)(e:MapEntry),m[i]?=some p->arr[i]?=some e->e.key=kc p.1/\Rep Z w (ev p.2) e.val)->
  ∃u,(∃o,Instr.findNow d (kc x) arr.toList 0=some o/\((o=.none/\(bM m x).isSome=false/\u=O7 i)\/∃k,o=some (k,u)/\(bM m x).isSome=true))/\Rep Z w (ev ((bM m x).getD z)) u:=by
  intro arr hl he;rcases find_spec hd x m arr.toList 0 (by simpa using hl) (λi p e h1 h2=>(he i p e h1 (by simpa using h2)).1)with⟨h1,h2,_⟩|⟨i,p,e,h1,h2,h3,h4,h5,_⟩
  .exact⟨_,⟨_,h1,.inl ⟨rfl,by rw[h2];rfl,rfl⟩⟩,by rw[h2];show Rep Z w (ev z) _;rw[<-hz];exact dB1 hi⟩
  .grind
 rcases hm with⟨rfl,hes⟩|⟨b,arr,clock,rfl,hh,hl,he⟩
 .have hmn:m=[]:=by simpa[U2]using hes
  obtain⟨u,⟨o,ho,hu⟩,hr⟩:=fin #[] (by rw[hmn];rfl) (λi p e h1 h2=>by simp at h2);refine⟨u,?_,hr⟩;simp only[Instr.lookup,I7,L6 ht,N9,Q5,hck,MapKept.run_findKey hkt ho];rcases hu with⟨rfl,h2,rfl⟩|⟨k,rfl,h2⟩
  .simp only[I7,bO3 hi,N9,Q5,h2]
  .simp[h2]
 .obtain⟨u,⟨o,ho,hu⟩,hr⟩:=fin arr (by simpa[U2]using hl) (λi p e h1 h2=>by
   obtain⟨q1,q2⟩:=he i (.v (kc p.1)) (ev p.2) e (by simp[U2,h1]) h2
   exact⟨mO q1,q2⟩)
  refine⟨u,?_,hr⟩;simp only[Instr.lookup,I7,L6 ht,N9,Q5,oC hh,hck,MapKept.run_findKey hkt ho];rcases hu with⟨rfl,h2,rfl⟩|⟨k,rfl,h2⟩
  .simp only[I7,bO3 hi,N9,Q5,h2]
  .simp[h2]
theorem PK{os:List (Nat×D9)}{Eo:Nat->Value}{r:SV}{x:Value}(hg:rJ Z w os Eo)(hz:∀b o,Z b o->b<w.heap.size)(hr:N7 Z w (G9 os) Eo r x):pK Z w os Eo Z w os Eo r x:=
 { res:=hr,grp:=hg,keeps:=Keeps.refl _ _,U4:=hz,fB:=λ_ _ h=>.inl h,kept:=Kept.refl _ _,own:=λ_ h=>.inr h,ok:=dH.refl _ _ }
theorem cQ6{t kt et:TypeId}{i:TI}(ht:P.underlying t=some (.map kt et))(hkt:P.underlying kt=some d)(hd:xO d kc)(hi:N8 P et i){ev:β->CV}{z:β}(hz:NC i=ev z){m:List (α×β)}{x:α}{a b:Operand}{ty:TypeId}{ok:Bool}{os:List (Nat×D9)}{s:SV}
 (hs:∀Z w Eo v,rJ Z w os Eo->N7 Z w (G9 os) Eo s v->bd2 Z w (U2 kc ev m) v):
 dN P G (.lookup t a b ok) ty [s,.c (.v (kc x))] os (bif ok then .c (.P7 [ev ((bM m x).getD z),.v (.bool (bM m x).isSome)])else .c (ev ((bM m x).getD z))) os:=by
 intro Z w Eo ac o next Q ho hty hg hzl hl hargs hgs hnext
 have h1:=hargs 0 s a rfl rfl;have h2:=kZ (hargs 1 (.c (.v (kc x))) b rfl rfl);obtain⟨u,hrun,hr⟩:=db4 ht hkt hd hi hz (hs Z w Eo _ hg h1) x ok;have hex:(execOp ac.eval o).run P w=.ok (.value (if ok then .tuple #[u,.bool (bM m x).isSome]else u)) w:=by
  obtain⟨dst,op,type,pos,after,guard⟩:=o;simp only at ho;subst ho;simp only[execOp,h2,I7,hrun,N9,Q5]
 refine aO hex (hnext _ Z w Eo (PK hg hzl ?_));cases ok with
 |true=>
  refine .c _ _ (.P7 _ [u,.bool (bM m x).isSome] rfl λi c y h3 h4=>?_)
  match i,h3,h4 with
  |0,h3,h4=>grind
  |1,h3,h4=>simp at h3 h4;subst h3;subst h4;exact .v _
  |n+2,h3,h4=>simp at h3
 |false=>exact .c _ _ hr
theorem bm0{t kt et:TypeId}{i:TI}(ht:P.underlying t=some (.map kt et))(hkt:P.underlying kt=some d)(hd:xO d kc)(hi:N8 P et i){ev:β->CV}{z:β}(hz:NC i=ev z){m:List (α×β)}{x:α}{a b:Operand}{ty:TypeId}{ok:Bool}:
 dN P G (.lookup t a b ok) ty [.mr 0 0,.c (.v (kc x))] [(0,.map (U2 kc ev m))] (bif ok then .c (.P7 [ev ((bM m x).getD z),.v (.bool (bM m x).isSome)])else .c (ev ((bM m x).getD z))) [(0,.map (U2 kc ev m))]:=by
 refine cQ6 ht hkt hd hi hz λZ w Eo v hg h=>?_;cases h with
 |mr _ _ _ hs hgen hE=>
  have he:=hE _ rfl;obtain⟨b,arr,clock,h1,h2,h3,h4,_⟩:=hg.ok 0;exact .inr ⟨b,arr,clock,he.symm.trans h1,h2,h3.1,h4⟩
def uV{α β:Type}[BEq α](m:List (α×β))(x:α)(z:β):Option β:=some ((bM m x).getD z)
def al9{α β:Type}[BEq α](m:List (α×β))(x:α)(z:β):Option (β×Bool):=some ((bM m x).getD z,(bM m x).isSome)
section
variable{t kt et:TypeId}{i:TI}{ev:β->CV}{z:β}{m:List (α×β)}{x:α}{a b:Operand}{ty:TypeId}
theorem PE(ht:P.underlying t=some (.map kt et))(hkt:P.underlying kt=some d)(hd:xO d kc)(hi:N8 P et i)(hz:NC i=ev z){y:β}(hy:uV m x z=some y):
 dN P G (.lookup t a b false) ty [.mr 0 0,.c (.v (kc x))] [(0,.map (U2 kc ev m))] (.c (ev y)) [(0,.map (U2 kc ev m))]:=by
 have:=bm0 (P:=P) (G:=G) ht hkt hd hi hz (m:=m) (x:=x) (a:=a) (b:=b) (ty:=ty) (ok:=false);rw[<-iE hy];exact this
theorem cw2(ht:P.underlying t=some (.map kt et))(hkt:P.underlying kt=some d)(hd:xO d kc)(hi:N8 P et i)(hz:NC i=ev z){y:β×Bool}(hy:al9 m x z=some y):
 dN P G (.lookup t a b true) ty [.mr 0 0,.c (.v (kc x))] [(0,.map (U2 kc ev m))] (.c (.P7 [ev y.1,.v (.bool y.2)])) [(0,.map (U2 kc ev m))]:=by
 have:=bm0 (P:=P) (G:=G) ht hkt hd hi hz (m:=m) (x:=x) (a:=a) (b:=b) (ty:=ty) (ok:=true);rw[<-iE hy];exact this
end
theorem gW(g:Nat)(o:D9)(j:Nat):G9 [(g,o)] j=if j=0 then(g,o)else(0,.none):=by
 cases j with
 |zero=>rfl
 |succ j=>simp[G9]
theorem nP{o:D9}{Eo:Nat->Value}{j b:Nat}{g:Nat}(h:(G9 [(g,o)] j).2.blk (Eo j) b):j=0/\o.blk (Eo 0) b:=by
 rw[gW]at h
 grind
theorem ai1{t:TypeId}{ty:TypeId}:dN P G (.makeMap t .none) ty [] [] (.mr 0 1) [(1,.map [])]:=by
 intro Z w Eo ac o next Q ho hty hg hzl hl hargs hgs hnext
 have hex:(execOp ac.eval o).run P w=.ok (.value (.map (some w.heap.size))) (w.alloc (.map #[] 0)):=by
  obtain⟨dst,op,type,pos,after,guard⟩:=o;simp only at ho;subst ho;simp[execOp,Instr.makeMap]
 refine aO hex (hnext _ Z _ (λ_=>.map (some w.heap.size)) ?_);have hnew:(w.alloc (.map #[] 0)).heap[w.heap.size]?=some (.map #[] 0):=(MapKept.heap_alloc w _).1;exact
  { res:=.mr 0 1 _ ⟨_,rfl⟩ (J6 _) λ_ _=>rfl
    grp:=⟨λj=>by
       rw[gW];by_cases hj:j=0
       .rw[I4 hj];exact⟨w.heap.size,#[],0,rfl,hnew,⟨rfl,Born.nil⟩,λi k v m h=>by simp at h,λo hz=>absurd (hzl _ _ hz) (Nat.lt_irrefl _)⟩
       .rw[F9 hj];trivial,
     λj j' b hne h1 h2=>hne ((nP (Eo:=λ_=>.map (some w.heap.size)) h1).1.trans (nP (Eo:=λ_=>.map (some w.heap.size)) h2).1.symm)⟩
    keeps:=Keeps.alloc hzl _
    U4:=λb o hz=>by grind
    fB:=λ_ _ h=>.inl h
    kept:=(Kept.refl _ _).alloc (λ_ h=>h.1) _
    own:=λb ⟨j,hj⟩=>by
     obtain⟨_,h⟩:=nP (Eo:=λ_=>.map (some w.heap.size)) hj
     grind
    ok:=
     { gen:=λt=>by simp[G9]
       var:=λt g hg hlv=>by
        obtain⟨cs,hlv⟩:=hlv;rw[gW]at hlv
        grind
       tok:=λt g el s hg hlv=>by
        rw[gW]at hlv
        grind
       arr:=λt g el sz ds D8 hg hlv=>by
        rw[gW]at hlv
        grind
       map:=λt g es hg hlv=>by
        rw[gW]at hlv;by_cases ht:t=0
        .rw[I4 ht]at hlv;simp at hlv;simp[G9]at hg;omega
        .rw[F9 ht]at hlv;simp at hlv } }
theorem cw9{o o':D9}{Eo:Nat->Value}{w':World}{b:Nat}{r:SV}{x:Value}(hg:rJ Z w [(0,o)] Eo)(hz:∀b o,Z b o->b<w.heap.size)(hb:o.blk (Eo 0) b)(hb':∀c,o'.blk (Eo 0) c->c=b)
 (hk:Kept (λk=>k≠b) w w') (hne:∀c,¬Z b c) (hok:U6 Z w' (G9 [(0,o')]) Eo (Eo 0) o') (hsk:dH (G9 [(0,o)]) Eo (G9 [(0,o')]) Eo) (hr:N7 Z w' (G9 [(0,o')]) Eo r x):
 pK Z w [(0,o)] Eo Z w' [(0,o')] Eo r x:=
 { res:=hr
   grp:=⟨λj=>by
      rw[gW];by_cases hj:j=0
      .grind
      .rw[F9 hj];trivial,
    λj j' b hne h1 h2=>hne ((nP h1).1.trans (nP h2).1.symm)⟩
   keeps:=λc k h=>⟨h,iH (hk.block c (λe=>hne k (e▸h)))⟩
   U4:=λc k h=>Z5 (hz c k h) hk.size
   fB:=λ_ _ h=>.inl h
   kept:=hk.mono λk ⟨_,h⟩ e=>h ⟨0,by rw[e];exact hb⟩
   own:=λc ⟨j,hj⟩=>by
    obtain⟨_,h⟩:=nP hj;exact .inr ⟨0,by rw[hb' _ h];exact hb⟩
   ok:=hsk }
theorem JA{t kt et:TypeId}(ht:P.underlying t=some (.map kt et))(hkt:P.underlying kt=some d)(hd:xO d kc){ev:β->CV}{m:List (α×β)}{x:α}{v:β}{a b c:Operand}{ty:TypeId}:
 dN P G (.mapUpdate t a b c) ty [.mr 0 0,.c (.v (kc x)),.c (ev v)] [(0,.map (U2 kc ev m))] .any [(0,.map (U2 kc ev (bZ m x v)))]:=by
 intro Z w Eo ac o next Q ho hty hg hzl hl hargs hgs hnext
 have h1:=hargs 0 (.mr 0 0) a rfl rfl;have h2:=kZ (hargs 1 (.c (.v (kc x))) b rfl rfl);have h3:Rep Z w (ev v) (ac.eval c):=by
  have:=hargs 2 (.c (ev v)) c rfl rfl;cases this with|c _ _ h=>exact h
 obtain⟨bl,arr,clock,hE,hh,hlen,hent,hnz⟩:=hg.ok 0;have hav:ac.eval a=.map (some bl):=by
  generalize ac.eval a=y at h1;cases h1 with
  |mr _ _ _ hs hgen hE'=>exact(hE' _ rfl).symm.trans hE
 have hck:(Instr.checkKey false 10000 kt (kc x)).run P w=.ok () w:=MapKept.run_checkKey hkt (hd.key x) false 9999;have hblk:(G9 [(0,D9.map (U2 kc ev m))] 0).2.blk (Eo 0) bl:=by rw[hE];rfl
 have hkey:∀(i:Nat)(p:α×β)(e:MapEntry),m[i]?=some p->arr[i]?=some e->e.key=kc p.1/\Rep Z w (ev p.2) e.val:=λi p e h4 h5=>by
  obtain⟨q1,q2⟩:=hent i (.v (kc p.1)) (ev p.2) e (by simp[U2,h4]) h5;exact⟨mO q1,q2⟩
 have hml:m.length=arr.size:=by grind
 have hlt:bl<w.heap.size:=(V4.1 hh).1;have fin:∀(arr':Array MapEntry)(clock':Nat),(Instr.mapUpdate t (.map (some bl)) (kc x) (ac.eval c)).run P w=.ok () { w with heap:=w.heap.setIfInBounds bl (.map arr' clock') }->
  ((bZ m x v).length=arr'.size/\Born arr' clock')->(∀(i:Nat)(p:α×β)(e:MapEntry),(bZ m x v)[i]?=some p->arr'[i]?=some e->e.key=kc p.1/\Rep Z w (ev p.2) e.val)->Oper.bT P o ac w next Q:=by
  intro arr' clock' hrun hl' he';obtain⟨hset,hoth⟩:=MapKept.heap_set (o':=.map arr' clock') hh;have hex:(execOp ac.eval o).run P w=.ok .skip { w with heap:=w.heap.setIfInBounds bl (.map arr' clock') }:=by
   obtain⟨dst,op,type,pos,after,guard⟩:=o;simp only at ho;subst ho;simp only[execOp,hav,h2,I7,hrun,N9,Q5]
  have hk:Kept (λk=>k≠bl) w { w with heap:=w.heap.setIfInBounds bl (.map arr' clock') }:=⟨rfl,rfl,rfl,by simp,λk hk=>hoth k hk,λk hk=>(hoth k (λe=>by rw[e,hh]at hk;exact nomatch hk)).trans hk⟩;have hkeep:Keeps Z w Z { w with heap:=w.heap.setIfInBounds bl (.map arr' clock') }:=λc k h=>⟨h,iH (hk.block c (λe=>hnz k (e▸h)))⟩;refine MZ hex (hnext _ Z _ Eo (cw9 hg hzl hblk (λc h=>by rw[hE]at h;cases h;rfl) hk hnz ?_ ?_ (.any _)))
  .refine⟨bl,arr',clock',hE,hset,⟨by simpa[U2]using hl'.1,hl'.2⟩,λi k u e h4 h5=>?_,hnz⟩;rw[O6]at h4;cases hp:(bZ m x v)[i]? with
   |none=>grind
   |some p=>
    rw[hp]at h4;simp at h4;obtain⟨rfl,rfl⟩:=h4;obtain⟨q1,q2⟩:=he' i p e hp h5;exact⟨by rw[q1];exact .v _,q2.keep hkeep⟩
  .exact
    { gen:=λt=>by rw[gW,gW];split<;>exact J6 _
      var:=λt g _ hlv=>by
       obtain⟨cs,hlv⟩:=hlv;rw[gW]at hlv
       grind
      tok:=λt g el s hg hlv=>by
       rw[gW]at hlv
       grind
      arr:=λt g el sz ds D8 hg hlv=>by
       rw[gW]at hlv
       grind
      map:=λt g es _ hlv=>by
       rw[gW]at hlv⊢;by_cases ht:t=0
       .grind
       .rw[F9 ht]at hlv;simp at hlv }
 rcases find_spec hd x m arr.toList 0 (by simpa using hml) (λi p e h4 h5=>(hkey i p e h4 (by simpa using h5)).1)with⟨q1,q2,q3⟩|⟨i,p,e,q1,q2,q3,q4,q5,q6⟩
 .refine fin (arr.push { key:=kc x,val:=ac.eval c,born:=clock }) (clock+1) ?_ ⟨by rw[q3];simp[hml],hlen.2.push _ _⟩ λi p e h4 h5=>?_
  .simp only[Instr.mapUpdate,I7,L6 ht,N9,oC hh,hck,MapKept.run_findKey hkt q1,GU _ hh]
  .rw[q3]at h4;rcases eG i m.length with hi|hi
   .grind
   .rw[bJ hi]at h4
    grind
 .have lN:arr[i]?=some e:=by simpa using q2
  have cG6:=(hkey i p e q1 lN).1;refine fin (arr.modify i λe=>{ e with key:=kc x,val:=ac.eval c }) clock ?_ ⟨by rw[q6];simp[hml],hlen.2.modify _ _ λ_=>rfl⟩ λj p' e' h4 h5=>?_
  .rw[V7]at q4;simp only[Instr.mapUpdate,I7,L6 ht,N9,oC hh,hck,MapKept.run_findKey hkt q4,lN,GX,Option.getD_some,Instr.keyThatStays,cG6,hd.bits x p.1 q3,if_true,Q5,GU _ hh]
  .rw[q6,vV]at h4;rw[xH]at h5;by_cases hij:i=j
   .grind
   .grind
end
abbrev eInt(x:Int):CV:=I x
abbrev nH(x:Bool):CV:=B x
end Go.F6
namespace Go.F6
open Go Go.RowKit
def slc{α:Type}(l:List α)(lo hi:Int):Option (List α):=bif decide (0<=lo/\lo<=hi/\hi<=l.length)then some ((l.drop lo.toNat).take (hi.toNat-lo.toNat))else .none
theorem bS6{α:Type}{l r:List α}{lo hi:Int}(h:slc l lo hi=some r):∃a b:Nat,lo=a/\hi=b/\a<=b/\b<=l.length/\r=(l.drop a).take (b-a):=by
 unfold slc at h;cases hb:decide (0<=lo/\lo<=hi/\hi<=l.length)with
 |false=>grind
 |true=>
  rw[hb]at h;have hc:=gB hb;simp at h;exact⟨lo.toNat,hi.toNat,by omega,by omega,by omega,by omega,h.symm⟩
section
variable{P:Program}{G:World->Prop}{Z:Zone}{w:World}
theorem db6{t e:TypeId}{i:TI}(ht:P.underlying t=some (.slice e))(hi:N8 P e i){ds:List (List CV)}{v:Value}(hv:Rep Z w (.sl i.size ds) v){l h:Nat}(hlh:l<=h)(hh:h<=ds.length){lo hi':Option Value}(hlo:NH lo l 0)(hhi:NH hi' h ds.length):
 ∃v',(Instr.sliceAt t v lo hi' none).run P w=.ok v' w/\Rep Z w (.sl i.size ((ds.drop l).take (h-l))) v':=by
 have key:∀(a:Option Addr)(cap:Nat),v=.slice a ds.length cap->ds.length<=cap->(Instr.sliceAt t v lo hi' none).run P w=.ok (.slice (if cap=l then a else a.map (·.add (l*i.size))) (h-l) (cap-l)) w:=by
  intro a cap he hc;subst he;simp only[Instr.sliceAt,I7,L6 ht,N9,Instr.slice,db7 true hc hlh hh hlo hhi,hi.sizeOf,Q5]
 generalize hcv:CV.sl i.size ds=cv at hv;cases hv with
 |nil sz a cap=>
  injection hcv with h1 h2
  subst h2;simp at hh;subst hh;have hl0:l=0:=Nat.le_zero.1 hlh;subst hl0;refine⟨_,key a cap rfl (Y3 _),?_⟩;simp only[List.drop_nil,List.take_nil];exact .nil _ _ _
 |sl sz ds' b o cap f hcap hsz hc hr=>
  injection hcv with h1 h2
  subst h1;subst h2;refine⟨_,key (some ⟨b,o,none⟩) cap rfl hcap,?_⟩;by_cases hle:l=h
  .subst hle;simp only[Nat.sub_self,List.take_zero];exact .nil _ _ _
  .have hcl:cap≠l:=by omega
   rw[F9 hcl];show Rep Z w _ (Value.slice (some (Addr.add ⟨b,o,none⟩ (l*i.size))) (h-l) (cap-l));rw[show Addr.add ⟨b,o,none⟩ (l*i.size)=⟨b,o+l*i.size,none⟩ by simp[Addr.add]];have hlen:((ds.drop l).take (h-l)).length=h-l:=by simp;omega
   have hget:∀(k:Nat)(d:List CV),((ds.drop l).take (h-l))[k]?=some d->ds[l+k]?=some d:=λk d hk=>by grind
   have:=Rep.sl (Z:=Z) (w:=w) i.size ((ds.drop l).take (h-l)) b (o+l*i.size) (cap-l) (λk j=>f (l+k) j) (by omega) (λk d hk=>hsz (l+k) d (hget k d hk))
    (λk j d c h1 h2=>by
      have:=hc (l+k) j d c (hget k d h1) h2;rw[show o+l*i.size+k*i.size+j=o+(l+k)*i.size+j by rw[pV];omega]
      exact this)
    (λk j d c h1 h2=>hr (l+k) j d c (hget k d h1) h2)
   grind
 |_=>cases hcv
theorem dj4{t:TypeId}{x:Operand}{a b:Option Operand}:(Op.slice t x a b none).operands[0]?=some x:=by cases a<;>cases b<;>rfl
theorem dj3{α:Type}{t e:TypeId}{i:TI}(ht:P.underlying t=some (.slice e))(hi:N8 P e i){cf:α->List CV}{l r:List α}{lo hi':Int}(h:slc l lo hi'=some r){x:Operand}{a b:Option Operand}{ty:TypeId}{sa:List SV}
 (hsa:∀(Z:Zone)(w:World)(Eo:Nat->Value)(ac:Act),(∀(j:Nat)(s:SV)(y:Operand),(SV.c (.sl i.size (l.map cf))::sa)[j]?=some s->(Op.slice t x a b none).operands[j]?=some y->N7 Z w (G9 []) Eo s (ac.eval y))->
   NH (a.map ac.eval) lo.toNat 0/\NH (b.map ac.eval) hi'.toNat l.length):
 dN P G (.slice t x a b none) ty (.c (.sl i.size (l.map cf))::sa) [] (.c (.sl i.size (r.map cf))) []:=by
 intro Z w Eo ac o next Q ho hty hg hzl hl hargs hgs hnext
 obtain⟨p,q,hp,hq,h1,h2,hr⟩:=bS6 h;have hx:Rep Z w (.sl i.size (l.map cf)) (ac.eval x):=by
  have:=hargs 0 _ x rfl dj4;cases this with|c _ _ h=>exact h
 obtain⟨b1,b2⟩:=hsa Z w Eo ac hargs;obtain⟨v',hrun,hrep⟩:=db6 ht hi hx (l:=p) (h:=q) h1 (by simpa using h2) (by rw[hp]at b1;simpa using b1) (by rw[hq]at b2;simpa using b2);have hex:(execOp ac.eval o).run P w=.ok (.value v') w:=by
  obtain⟨dst,op,type,pos,after,guard⟩:=o;simp only at ho;subst ho;simp only[execOp,Option.map_none,I7,hrun,N9,Q5]
 refine aO hex (hnext _ Z w Eo (PK hg hzl (.c _ _ ?_)));rw[hr,List.map_take,List.map_drop];exact hrep
theorem PI{α:Type}{t e:TypeId}{i:TI}(ht:P.underlying t=some (.slice e))(hi:N8 P e i){cf:α->List CV}{l r:List α}{hi':Int}(h:slc l 0 hi'=some r){x b:Operand}{ty:TypeId}{k:IntKind}:
 dN P G (.slice t x none (some b) none) ty [.c (.sl i.size (l.map cf)),.c (.v (.int k hi'))] [] (.c (.sl i.size (r.map cf))) []:=
 dj3 ht hi h λZ w Eo ac hargs=>by
  obtain⟨p,q,hp,hq,h1,h2,hr⟩:=bS6 h;have:=kZ (hargs 1 _ b rfl (by simp[Op.operands]));exact⟨.inl ⟨rfl,rfl⟩,.inr ⟨k,by simp[this,hq]⟩⟩
theorem be6{xs:List Value}{v:Value}(h:Rep Z w (.agg (xs.map CV.v)) v):v=.agg xs.toArray:=by
 generalize hc:CV.agg (xs.map CV.v)=c at h;cases h with
 |agg cs vs hl hr ha=>
  injection hc with hc
  subst hc;have:xs=vs:=by
   apply mY;intro i;cases hi:xs[i]? with
   |none=>grind
   |some x=>
    have hlt:i<vs.length:=by grind
    have:=hr i (.v x) vs[i] (by simp[hi]) (I9 hlt);rw[I9 hlt,mO this]
  rw[this]
 |_=>cases hc
theorem bl9{op:BinOp}{t:TypeId}{xs ys:List Value}{r:Bool}{cx cy:List CV}(hx:cx=xs.map CV.v)(hy:cy=ys.map CV.v)(hm:P.eqGuardType P.depth t=false)(hrun:∀w,(binOp op t (.agg xs.toArray) (.agg ys.toArray)).run P w=.ok (.bool r) w){x y:Operand}{ty:TypeId}{z:TypeId}:
 dN P G (.binOp op t x y z) ty [.c (.agg cx),.c (.agg cy)] [] (.c (.v (.bool r))) []:=by
 intro Z w Eo ac o next Q ho hty hg hzl hl hargs hgs hnext
 subst hx;subst hy;have e1:ac.eval x=.agg xs.toArray:=by
  have:=hargs 0 _ x rfl rfl;cases this with|c _ _ h=>exact be6 h
 have e2:ac.eval y=.agg ys.toArray:=by
  have:=hargs 1 _ y rfl rfl;cases this with|c _ _ h=>exact be6 h
 have hex:(execOp ac.eval o).run P w=.ok (.value (.bool r)) w:=by
  obtain⟨dst,op,type,pos,after,guard⟩:=o;simp only at ho;subst ho;simp only[execOp,e1,e2,I7,run_eqGuard_agg w _ t x y _ _ hm,hrun,N9,Q5]
 exact aO hex (hnext _ Z w Eo (PK hg hzl (.c _ _ (.v _))))
theorem sK(g h:Nat)(o p:D9)(j:Nat):G9 [(g,o),(h,p)] j=if j=0 then(g,o)else if j=1 then(h,p)else(0,.none):=by
 match j with
 |0=>rfl
 |1=>rfl
 |j+2=>simp[G9]
theorem cv5{t e:TypeId}{i ie:TI}(ht:N8 P t i)(hz:i.zero=[.slice none 0 0])(hagg:i.isAgg=false)(hsz:0<ie.size){ty:TypeId}:
 dN P G (.alloc t) ty [] [] (.pm 0 1 0) [(1,.varx [.rs 1 1]),(1,.arr e ie.size [] none)]:=by
 intro Z w Eo ac o next Q ho hty hg hzl hl hargs hgs hnext
 obtain⟨j,hj,hjs,_,hjz⟩:=ht.eX;have hzv:O7 i=.slice none 0 0:=by simp[O7,hagg,hz]
 have hex:(execOp ac.eval o).run P w=.ok (.value (.pointer (some ⟨w.heap.size,0,none⟩))) (w.alloc (.cells #[.slice none 0 0] t (0,0))):=by
  obtain⟨dst,op,type,pos,after,guard⟩:=o;simp only at ho;subst ho;simp[execOp,Instr.alloc,zeroValue,typeInfo,hj,hjz,newVar,newRow,hzv,Value.cells]
 let Er:Nat->Value:=λj=>if j=0 then .pointer (some ⟨w.heap.size,0,none⟩)else .slice none 0 0
 refine aO hex (hnext _ Z _ Er ?_);have hnew:(w.alloc (.cells #[.slice none 0 0] t (0,0))).heap[w.heap.size]?=some (.cells #[.slice none 0 0] t (0,0)):=(MapKept.heap_alloc w _).1;have hblk:∀j b,(G9 [(1,D9.varx [.rs 1 1]),(1,.arr e ie.size [] none)] j).2.blk (Er j) b->j=0/\b=w.heap.size:=λj b hb=>by
  rw[sK]at hb
  grind
 exact
  { res:=.pm 0 1 0 _ ⟨_,rfl⟩ (J6 _) λ_=>⟨w.heap.size,rfl,rfl⟩
    grp:=⟨λj=>by
       rw[sK];by_cases h0:j=0
       .subst h0;rw[I4 rfl];refine⟨w.heap.size,t,#[.slice none 0 0],rfl,hnew,rfl,λk c hk=>?_,λo hz'=>absurd (hzl _ _ hz') (Nat.lt_irrefl _),.none λk c hk=>by match k,hk with|0,hk=>simp at hk;subst hk;rfl|k+1,hk=>simp at hk⟩
        match k,hk with
        |0,hk=>
         simp at hk;subst hk;exact⟨rfl,_,rfl,.one (.rs 1 1 _ ⟨_,_,_,rfl⟩ (J6 _) λ_ _ _ _ _=>rfl)⟩
        |k+1,hk=>simp at hk
       .rw[F9 h0];by_cases h1:j=1
        .subst h1;rw[I4 rfl];refine⟨[],hsz,World.ownsRow_nil _ _ _ _,C9 (λ_ _ h=>nomatch h) (λi d h=>by simp at h),λi d hi=>by simp at hi,λi d hi=>by simp at hi,λb o hb=>by simp[Er,Value.ownBlock]at hb⟩
        .rw[F9 h1];trivial,
     λj j' b hne h1 h2=>hne ((hblk j b h1).1.trans (hblk j' b h2).1.symm)⟩
    keeps:=Keeps.alloc hzl _
    U4:=λb o hz=>by grind
    fB:=λ_ _ h=>.inl h
    kept:=(Kept.refl _ _).alloc (λ_ h=>h.1) _
    own:=λb ⟨j,hj⟩=>.inl (by have:=(hblk j b hj).2;omega)
    ok:=
     { gen:=λt=>by simp[G9]
       var:=λt g hg hlv=>by
        obtain⟨cs,hlv⟩:=hlv;rw[sK]at hlv;by_cases h0:t=0
        .rw[I4 h0]at hlv;simp at hlv;simp[G9]at hg;omega
        .grind
       tok:=λt g el s hg hlv=>by
        rw[sK]at hlv
        grind
       arr:=λt g el sz ds D8 hg hlv=>by
        rw[sK]at hlv;by_cases h0:t=0
        .grind
        .rw[F9 h0]at hlv;by_cases h1:t=1
         .rw[I4 h1]at hlv;simp at hlv;simp[G9]at hg;omega
         .grind
       map:=λt g es hg hlv=>by
        rw[sK]at hlv;by_cases h0:t=0
        .grind
        .rw[F9 h0]at hlv;by_cases h1:t=1
         .grind
         .rw[F9 h1]at hlv;simp at hlv } }
end
end Go.F6
namespace Go.F6
open Go Go.RowKit
section
variable{P:Program}{G:World->Prop}{Z:Zone}{w:World}
theorem ai2{os:List (Nat×D9)}{Eo:Nat->Value}{o':D9}{E1:Value}{w':World}{r:SV}{x:Value}(hos:os=[]\/∃o,os=[(0,o)])
 (hz:∀b o,Z b o->b<w.heap.size) (hkeep:Keeps Z w Z w') (hsz:w.heap.size<=w'.heap.size) (hk:Kept (SG w os Eo) w w') (hok:U6 Z w' (G9 [(1,o')]) (λ_=>E1) E1 o')
 (hblk:∀b,o'.blk E1 b->w.heap.size<=b\/GB os Eo b) (hr:N7 Z w' (G9 [(1,o')]) (λ_=>E1) r x):pK Z w os Eo Z w' [(1,o')] (λ_=>E1) r x:=by
 have hgen:∀t,(G9 os t).1=0:=λt=>by
  rcases hos with rfl|⟨o,rfl⟩
  .simp[G9]
  .rw[gW];split<;>rfl
 have hlow:∀t g o,g<=(G9 os t).1->G9 [(1,o')] t=(g,o)->o=.none:=λt g o hg hl=>by
  rw[hgen]at hg;rw[gW]at hl
  grind
 exact
  { res:=hr
    grp:=⟨λj=>by
       rw[gW];by_cases hj:j=0
       .grind
       .rw[F9 hj];trivial,
     λj j' b hne h1 h2=>hne ((nP (Eo:=λ_=>E1) h1).1.trans (nP (Eo:=λ_=>E1) h2).1.symm)⟩
    keeps:=hkeep
    U4:=λb o h=>Z5 (hz b o h) hsz
    fB:=λ_ _ h=>.inl h
    kept:=hk
    own:=λb ⟨j,hj⟩=>hblk b (nP (Eo:=λ_=>E1) hj).2
    ok:=
     { gen:=λt=>by rw[hgen];exact Y3 _
       var:=λt g hg hl=>by
        obtain⟨cs,hl⟩:=hl
        grind
       tok:=λt g el s hg hl=>absurd (hlow t g _ hg hl) (by simp)
       arr:=λt g el sz ds D8 hg hl=>absurd (hlow t g _ hg hl) (by simp)
       map:=λt g es hg hl=>absurd (hlow t g _ hg hl) (by simp) } }
theorem ay5{e sz:Nat}{α:Type}{cf:α->List CV}{l:List α}(hcf:∀x,(cf x).length=sz){v:Value}{xs:List Value}{obj:I5}{E:Nat->Value}(hsz:0<sz)(hown:w.ownsRow 0 e sz v l.length xs)
 (hc:∀(i j:Nat)(a:α)(c:CV),l[i]?=some a->(cf a)[j]?=some c->c.atom=true/\∃u,xs[i*sz+j]?=some u/\Rep Z w c u) (hz:∀b o,v.ownBlock=some b->¬Z b o):
 U6 Z w obj E v (.arr e sz (l.map cf) none):=by
 have hget:∀(i:Nat)(d:List CV),(l.map cf)[i]?=some d->∃a,l[i]?=some a/\d=cf a:=λi d h=>by grind
 refine⟨xs,hsz,by simpa using hown,C9 (λ_ _ h=>nomatch h) (λi d hd _=>?_),λi d hi hd=>?_,λi d hi hd j c hj=>?_,hz⟩
 .obtain⟨a,ha,rfl⟩:=hget i d hd;exact KQ λj c hj=>(hc i j a c ha hj).2.choose_spec.2.EJ
 .obtain⟨a,ha,rfl⟩:=hget i d hd;exact hcf a
 .obtain⟨a,ha,rfl⟩:=hget i d hd;obtain⟨h1,u,h2,h3⟩:=hc i j a c ha hj;exact⟨h1,u,h2,.cl h3⟩
theorem JB{e:TypeId}{ie:TI}(hsz:0<ie.size){ty:TypeId}:dN P G (.assign (.const (.slice .none 0 0))) ty [.c (.sl 0 [])] [] (.rs 0 1) [(1,.arr e ie.size [] none)]:=by
 intro Z w Eo ac o next Q ho hty hg hzl hl hargs hgs hnext
 have hex:(execOp ac.eval o).run P w=.ok (.value (.slice none 0 0)) w:=by
  obtain⟨dst,op,type,pos,after,guard⟩:=o;simp only at ho;subst ho;simp[execOp,Act.eval]
 refine aO hex (hnext _ Z w (λ_=>.slice none 0 0) (ai2 (.inl rfl) hzl (Keeps.refl _ _) (J6 _) (Kept.refl _ _) ?_ (λb hb=>by simp[D9.blk]at hb) (.rs 0 1 _ ⟨_,_,_,rfl⟩ (J6 _) λ_ _ _ _ _=>rfl)));exact⟨[],hsz,World.ownsRow_nil _ _ _ _,C9 (λ_ _ h=>nomatch h) (λi d h=>by simp at h),λi d hi=>by simp at hi,λi d hi=>by simp at hi,λb o hb=>by simp[Value.ownBlock]at hb⟩
theorem IZ{α:Type}{t e:TypeId}{i:TI}{cf:α->List CV}{l ns:List α}(ht:P.underlying t=some (.slice e))(hi:N8 P e i)(h1:1<=i.size)(hby:i.bytes<=4096)(hcf:∀x,(cf x).length=i.size)
 (hle:decide (l.length+ns.length<=4294967296)=true) {x y:Operand} {ty:TypeId}:
 dN P G (.call ⟨.builtin .append,⟨[x,y]⟩,⟨[t,t]⟩⟩) ty [.rs 0 0,.c (.sl i.size (ns.map cf))] [(0,.arr e i.size (l.map cf) none)] (.rs 0 1) [(1,.arr e i.size ((l++ns).map cf) none)]:=by
 intro Z w Eo ac o next Q ho hty hg hzl hl hargs hgs hnext
 have hle:=gB hle;have hx:=hargs 0 (.rs 0 0) x rfl rfl;have hy:Rep Z w (.sl i.size (ns.map cf)) (ac.eval y):=by
  have:=hargs 1 (.c (.sl i.size (ns.map cf))) y rfl rfl;cases this with|c _ _ h=>exact h
 obtain⟨xs,kW,hown,hfoc,oN,hcells,hnz⟩:=hg.ok 0;have hE:Eo 0=ac.eval x/\∃aa q k,ac.eval x=.slice aa q k:=by
  generalize ac.eval x=v at hx;cases hx with|rs _ _ _ hs _ hp=>exact⟨hp _ _ _ _ rfl,hs⟩
 obtain⟨hE,DX⟩:=hE;rw[hE]at hown hnz;obtain⟨news,hnl,hone,hyv,hcell⟩:=ah3 (sz:=i.size) (by omega) (λm hm=>by obtain⟨a,_,rfl⟩:=iV.1 hm;exact hcf a) hy;obtain⟨j,hj,hjs,hjb,hjz⟩:=hi.eX;have hzc:(O7 i).cells.size=i.size:=by rw[kK hi];simp[hi.len]
 simp only[U7]at hown hnl hyv;have hbytes:(l.length+ns.length)*j.bytes<=140737488355328:=by
  rw[hjb]
  calc (l.length+ns.length)*i.bytes<=4294967296*4096:=Nat.mul_le_mul hle hby
   _<=140737488355328:=by decide
 obtain⟨v',w',hrun,hown',hgr,hblk,hs'⟩:=bf0 (P:=P) (ty:=ty) ht hj hjz hjs hzc h1 hown DX hnl hone hyv (by omega) hbytes (Y3 _);have hex:(execOp ac.eval o).run P w=.ok (.value v') w':=by
  obtain⟨dst,op,type,pos,after,guard⟩:=o;simp only at ho hty;subst ho;subst hty;rw[CY];simp only[builtin,I7,List.map_toArray,kP,List.map_nil,hrun];rfl
 have hkeep:Keeps Z w Z w':=λb o hz=>⟨hz,iH (hgr.block b (hzl b o hz) (λe=>hnz b o e.symm hz))⟩;have hgb:∀b,(ac.eval x).ownBlock=some b->GB [(0,.arr e i.size (l.map cf) none)] Eo b:=λb hb=>⟨0,by rw[hE];rw[<-iF (ac.eval x) e i.size (l.map cf) none]at hb;exact hb⟩;refine aO hex (hnext _ Z w' (λ_=>v') (ai2 (.inr ⟨_,rfl⟩) hzl hkeep hgr.size ((Kept.refl _ _).grown hgr (λk h=>h.1) (λk hk h=>h.2 (hgb k hk)) (λk hk=>by obtain⟨cur,hc⟩:=SB hown hk;rw[hc];exact λh=>nomatch h)) ?_ (λb hb=>?_) (.rs 0 1 _ hs' (J6 _) λ_ _ _ _ _=>rfl)))
 .refine ay5 hcf (by omega) (by simpa using hown') (λi' j' a c ha hc=>?_) (λb o hb hz=>?_)
  .have hjl:j'<i.size:=by rw[<-hcf a];exact(O4.1 hc).1
   rw[aE9 hown.1 hjl];by_cases hil:i'<l.length
   .rw[bV hil]at ha;rw[I4 hil];have hd:(l.map cf)[i']?=some (cf a):=by grind
    obtain⟨q1,u,q2,q3⟩:=hcells i' (cf a) (by simpa using hil) hd j' c hc;exact⟨q1,u,q2,(q3.closed (kY (hfoc.2 i' (cf a) hd (λ_ _ h=>nomatch h)) hc)).keep hkeep⟩
   .rw[bJ (by omega)]at ha;rw[F9 hil];obtain⟨q1,u,q2,q3⟩:=hcell (i'-l.length) j' (cf a) c (by rw[O6,ha];rfl) hc;exact⟨q1,u,q2,q3.keep hkeep⟩
  .grind
 .rw[iF]at hb
  grind
theorem aC8{t e:TypeId}{i:TI}(ht:P.underlying t=some (.slice e))(hi:N8 P e i)(h1:1<=i.size){ty:TypeId}:
 dN P G (.buildSlice t 0 ⟨[]⟩) ty [] [] (.rs 0 1) [(1,.arr e i.size [] none)]:=by
 intro Z w Eo ac o next Q ho hty hg hzl hl hargs hgs hnext
 have hex:(execOp ac.eval o).run P w=.ok (.value (.slice (some ⟨w.heap.size,0,none⟩) 0 0)) (w.alloc (.cells #[] e)):=by
  obtain⟨dst,op,type,pos,after,guard⟩:=o;simp only at ho;subst ho;simp only[execOp,Instr.buildSlice,I7,L6 ht,N9,hi.sizeOf w,Nat.zero_mul,Q5];rw[F9 (by decide),I4 trivial];have hr:Array.range 0=#[]:=by simp
  simp only[I7,Q5,N9,Instr.fill,Array.map_empty,hr];rfl
 have hown:=World.ownsRow_lit (base:=0) (e:=e) (size:=i.size) w #[] 0 (Y3 _) (by simp only[maxLen];omega) (by simp);refine aO hex (hnext _ Z _ (λ_=>.slice (some ⟨w.heap.size,0,none⟩) 0 0) (ai2 (.inl rfl) hzl (Keeps.alloc hzl _) (by simp) ((Kept.refl _ _).alloc (λ_ h=>h.1) _) ?_ (λb hb=>?_) (.rs 0 1 _ ⟨_,_,_,rfl⟩ (J6 _) λ_ _ _ _ _=>rfl)))
 .exact⟨[],h1,hown,C9 (λ_ _ h=>nomatch h) (λi d h=>by simp at h),λi d hi=>by simp at hi,λi d hi=>by simp at hi,λb o hb hz=>by
   simp[Value.ownBlock]at hb;have:=hzl b o hz
   omega⟩
 .grind
end
def KT{α:Type}[DecidableEq α](x y:Option α):Option α:=if x=y then x else none
theorem aN3{α β γ:Type}[DecidableEq α]{l:List β}{cf:β->γ}{x y:Option α}{r:α}{K:Bool->Prop}(h:(bif l.isEmpty then KT x y else y)=some r)(h1:x=some r->K true)(h2:y=some r->K false):
 ∀b,(b=true->l.map cf=[])->K b:=by
 intro b hb;cases b with
 |false=>
  refine h2 ?_;cases l with
  |nil=>
   simp only[List.isEmpty_nil,H7,KT]at h
   grind
  |cons a l=>exact h
 |true=>
  have:=hb rfl;cases l with
  |nil=>
   simp only[List.isEmpty_nil,H7,KT]at h
   grind
  |cons a l=>simp at this
end Go.F6
end
section
namespace Go.F6
open Go Go.RowKit
section
variable{P:Program}{G:World->Prop}
end
end Go.F6
namespace Go.F6
open Go Go.RowKit
def am2:List Operand->List SV->List SV->Prop
 |[],[],[]=>True
 |x::xs,s::ss,s'::ss'=>(s'=s\/(x=.const (.slice none 0 0)/\s'=.c (.v (.slice none 0 0))))/\am2 xs ss ss'
 |_,_,_=>False
theorem bB7:∀{xs:List Operand}{ss ss':List SV},am2 xs ss ss'->ss'.length=xs.length
 |[],[],[],_=>rfl
 |_::_,_::_,_::_,h=>by simp[bB7 h.2]
 |[],[],_::_,h=>h.elim
 |[],_::_,_,h=>h.elim
 |_::_,[],_,h=>h.elim
 |_::_,_::_,[],h=>h.elim
theorem bB6:∀{xs:List Operand}{ss ss':List SV},am2 xs ss ss'->∀{i:Nat}{s':SV}{x:Operand},ss'[i]?=some s'->xs[i]?=some x->∃s,ss[i]?=some s/\(s'=s\/(x=.const (.slice none 0 0)/\s'=.c (.v (.slice none 0 0))))
 |[],[],[],_,_,_,_,h,_=>by simp at h
 |_::_,s::_,_::_,h,0,_,_,h1,h2=>by
  simp at h1 h2;subst h1;subst h2;exact⟨s,rfl,h.1⟩
 |_::_,_::_,_::_,h,i+1,_,_,h1,h2=>by
  obtain⟨s,q1,q2⟩:=bB6 h.2 (by simpa using h1) (by simpa using h2)
  grind
 |[],[],_::_,h,_,_,_,_,_=>h.elim
 |[],_::_,_,h,_,_,_,_,_=>h.elim
 |_::_,[],_,h,_,_,_,_,_=>h.elim
 |_::_,_::_,[],h,_,_,_,_,_=>h.elim
section
variable{P:Program}{G:World->Prop}{T:Tab}
theorem cv7{t e:TypeId}{ie:TI}{x0:Operand}(hsz:0<ie.size){ty:TypeId}:
 dN P G (.box t x0) ty [.c (.v (.slice none 0 0))] [] (.pm 0 1 0) [(1,.varx [.rs 1 1]),(1,.arr e ie.size [] none)]:=by
 intro Z w Eo ac o next Q ho hty hg hzl hl hargs hgs hnext
 have hx:ac.eval x0=.slice none 0 0:=by
  have:=hargs 0 _ x0 rfl rfl;generalize ac.eval x0=y at this;cases this with
  |c _ _ h=>cases h;rfl
 have hex:(execOp ac.eval o).run P w=.ok (.value (.pointer (some ⟨w.heap.size,0,none⟩))) (w.alloc (.cells #[.slice none 0 0] t (0,0))):=by
  obtain⟨dst,op,type,pos,after,guard⟩:=o;simp only at ho;subst ho;simp[execOp,Instr.box,newVar,newRow,hx,Value.cells]
 let Er:Nat->Value:=λj=>if j=0 then .pointer (some ⟨w.heap.size,0,none⟩)else .slice none 0 0
 refine aO hex (hnext _ Z _ Er ?_);have hnew:(w.alloc (.cells #[.slice none 0 0] t (0,0))).heap[w.heap.size]?=some (.cells #[.slice none 0 0] t (0,0)):=(MapKept.heap_alloc w _).1;have hblk:∀j b,(G9 [(1,D9.varx [.rs 1 1]),(1,.arr e ie.size [] none)] j).2.blk (Er j) b->j=0/\b=w.heap.size:=λj b hb=>by
  rw[sK]at hb
  grind
 exact
  { res:=.pm 0 1 0 _ ⟨_,rfl⟩ (J6 _) λ_=>⟨w.heap.size,rfl,rfl⟩
    grp:=⟨λj=>by
       rw[sK];by_cases h0:j=0
       .subst h0;rw[I4 rfl];refine⟨w.heap.size,t,#[.slice none 0 0],rfl,hnew,rfl,λk c hk=>?_,λo hz'=>absurd (hzl _ _ hz') (Nat.lt_irrefl _),.none λk c hk=>by match k,hk with|0,hk=>simp at hk;subst hk;rfl|k+1,hk=>simp at hk⟩
        match k,hk with
        |0,hk=>
         simp at hk;subst hk;exact⟨rfl,_,rfl,.one (.rs 1 1 _ ⟨_,_,_,rfl⟩ (J6 _) λ_ _ _ _ _=>rfl)⟩
        |k+1,hk=>simp at hk
       .rw[F9 h0];by_cases h1:j=1
        .subst h1;rw[I4 rfl];refine⟨[],hsz,World.ownsRow_nil _ _ _ _,C9 (λ_ _ h=>nomatch h) (λi d h=>by simp at h),λi d hi=>by simp at hi,λi d hi=>by simp at hi,λb o hb=>by simp[Er,Value.ownBlock]at hb⟩
        .rw[F9 h1];trivial,
     λj j' b hne h1 h2=>hne ((hblk j b h1).1.trans (hblk j' b h2).1.symm)⟩
    keeps:=Keeps.alloc hzl _
    U4:=λb o hz=>by grind
    fB:=λ_ _ h=>.inl h
    kept:=(Kept.refl _ _).alloc (λ_ h=>h.1) _
    own:=λb ⟨j,hj⟩=>.inl (by have:=(hblk j b hj).2;omega)
    ok:=
     { gen:=λt=>by simp[G9]
       var:=λt g hg hlv=>by
        obtain⟨cs,hlv⟩:=hlv;rw[sK]at hlv;by_cases h0:t=0
        .rw[I4 h0]at hlv;simp at hlv;simp[G9]at hg;omega
        .grind
       tok:=λt g el s hg hlv=>by
        rw[sK]at hlv
        grind
       arr:=λt g el sz ds D8 hg hlv=>by
        rw[sK]at hlv;by_cases h0:t=0
        .grind
        .rw[F9 h0]at hlv;by_cases h1:t=1
         .rw[I4 h1]at hlv;simp at hlv;simp[G9]at hg;omega
         .grind
       map:=λt g es hg hlv=>by
        rw[sK]at hlv;by_cases h0:t=0
        .grind
        .rw[F9 h0]at hlv;by_cases h1:t=1
         .grind
         .rw[F9 h1]at hlv;simp at hlv } }
theorem cw0{c:Call}{ty:TypeId}{fo:Operand}(hc:c.callee=.value fo){f:FuncId}{caps l7 as':List SV}{os os':List (Nat×D9)}{r:SV}{fs:SV}
 (hfs:fs=.Q7 (.fn f) caps\/∃cs:List CV,fs=.c (.fn f cs)/\caps=cs.map SV.c) (hna:am2 c.args.toList l7 as') (h:fD P G f (as'++caps) os r os'):dN P G (.call c) ty (fs::l7) os r os':=by
 obtain⟨⟨fn,hfn,hnm,hbd⟩,h⟩:=h;intro Z w Eo a o next Q ho hty hg hz hl hargs hgs hnext
 obtain⟨dst,op,type,pos,after,guard⟩:=o;simp only at ho hty;subst ho;subst hty;have hops:(Op.call c).operands=#[fo]++c.args:=by simp[Op.operands,Call.operands,hc]
 rw[hops]at hl hargs;have hfv:=hargs 0 fs fo rfl (by rw[NG (Nat.zero_lt_one)];rfl);have hcap:∃cv:List Value,a.eval fo=.func (.func f) #[] cv.toArray/\caps.length=cv.length/\∀(i:Nat)(s:SV)(x:Value),caps[i]?=some s->cv[i]?=some x->N7 Z w (G9 os) Eo s x:=by
  generalize a.eval fo=y at hfv;rcases hfs with hfs|⟨cs,hfs,hcs⟩
  .subst hfs;cases hfv with
   |Q7 _ _ vs _ hl hh=>exact⟨vs,rfl,hl,hh⟩
  .subst hfs;subst hcs;cases hfv with
   |c _ _ hr=>
    cases hr with
    |fn _ _ vs hl hh=>
     refine⟨vs,rfl,by simpa using hl,λi s x h1 h2=>?_⟩;rw[O6]at h1;cases hk:cs[i]? with
     |none=>grind
     |some c0=>rw[hk]at h1;simp at h1;subst h1;exact .c _ _ (hh i c0 x hk h2)
 obtain⟨cv,hcv,hcl,hcr⟩:=hcap;have dK4:l7.length=c.args.toList.length:=by grind
 have hal:as'.length=c.args.toList.length:=bB7 hna
 have yZ:=h Z w Eo (c.args.toList.map a.eval++cv) hg hz (by simp;simp at hal;omega) (λi s x h1 h2=>by
  rcases eG i as'.length with hlt|hge
  .rw[bV hlt]at h1;rw[bV (by simp;simp at hal;omega),O6]at h2;cases hk:c.args.toList[i]? with
   |none=>grind
   |some op=>
    rw[hk]at h2;simp at h2;subst h2;obtain⟨s0,hs0,hsc⟩:=bB6 hna h1 hk;rcases hsc with rfl|⟨rfl,rfl⟩
    .refine hargs (i+1) s op (by simpa using hs0) ?_
     grind
    .exact .c _ _ (.v _)
  .rw[bJ hge]at h1;rw[bJ (by simp;simp at hal;omega)]at h2;simp only[U7]at h2;rw[<-hal]at h2
   exact hcr _ s x h1 h2) hgs
 have uN:c.args.map a.eval++cv.toArray=((c.args.toList.map a.eval)++cv).toArray:=by grind
 have hrun:(execOp a.eval ⟨dst,.call c,type,pos,after,guard⟩).run P w=.ok (.enter f (c.args.toList.map a.eval++cv).toArray) w:=by
  simp only[execOp,resolve,hc,Deferred.ofValue,hcv,invoke,callFunc,I7,Q5,N9,Array.empty_append,uN];have hnm':¬(fn.name= "runtime.NumGoroutine"):=by grind
  have uO:¬(fn.body=none):=λe=>by grind
  simp[Go.program,Sem.run,hfn,hnm',uO]
 refine MW (λ_ h=>nomatch h) ?_;unfold Oper.wp;rw[hrun];simp only[Oper.upon];refine yZ.mono ?_
 grind
end
end Go.F6
end
namespace Go
abbrev Y9:=@decide_eq_true
abbrev vY:=@Nat.mul_one
abbrev wR:=@of_decide_eq_false
end Go
namespace Go.F6
open Go Go.RowKit
theorem cw8{Z:Zone}{w:World}{o o':D9}{Eo:Nat->Value}{w':World}{r:SV}{x:Value}(hg:rJ Z w [(0,o)] Eo)(hz:∀b o,Z b o->b<w.heap.size){b:Nat}(hb:o.blk (Eo 0) b)(hb':∀c,o'.blk (Eo 0) c->c=b)
 (hk:Kept (λk=>k<w.heap.size/\k≠b) w w') (hne:∀c,¬Z b c) (hok:U6 Z w' (G9 [(0,o')]) Eo (Eo 0) o') (hsk:dH (G9 [(0,o)]) Eo (G9 [(0,o')]) Eo) (hr:N7 Z w' (G9 [(0,o')]) Eo r x):
 pK Z w [(0,o)] Eo Z w' [(0,o')] Eo r x:=
 { res:=hr
   grp:=⟨λj=>by
      rw[gW];by_cases hj:j=0
      .grind
      .rw[F9 hj];trivial,
    λj j' b hne h1 h2=>hne ((nP h1).1.trans (nP h2).1.symm)⟩
   keeps:=λc k h=>⟨h,iH (hk.block c ⟨hz c k h,λe=>hne k (e▸h)⟩)⟩
   U4:=λc k h=>Z5 (hz c k h) hk.size
   fB:=λ_ _ h=>.inl h
   kept:=hk.mono λk h=>⟨h.1,λe=>h.2 ⟨0,by rw[e];exact hb⟩⟩
   own:=λc ⟨j,hj⟩=>by
    obtain⟨_,h⟩:=nP hj;exact .inr ⟨0,by rw[hb' _ h];exact hb⟩
   ok:=hsk }
theorem bf9{e sz:Nat}{ds ds':List (List CV)}{Eo:Nat->Value}:dH (G9 [(0,.arr e sz ds none)]) Eo (G9 [(0,.arr e sz ds' none)]) Eo where
 gen t:=by rw[gW,gW];split<;>exact J6 _
 var t g _ hlv:=by
  obtain⟨cs,hlv⟩:=hlv;rw[gW]at hlv
  grind
 tok t g el s hg hlv:=by
  rw[gW]at hlv
  grind
 arr t g el sz ds D8 hg hlv:=by
  rw[gW]at hlv;by_cases ht:t=0
  .rw[I4 ht]at hlv;simp at hlv;obtain⟨rfl,rfl,rfl,rfl,rfl⟩:=hlv;exact⟨⟨_,none,by rw[ht];rfl⟩,rfl⟩
  .grind
 map t g es hg hlv:=by
  rw[gW]at hlv
  grind
theorem cw4{P:Program}{G:World->Prop}{f:FuncId}{e:TypeId}(hb:pO P f)
 (hnone:∀(p:Option Addr)(cap:Nat)(w:World),Calls P f #[.slice p 0 cap] w λe w'=>e=.returned (.tuple #[])/\w'=w)
 (hsort:∀(blk off cap:Nat)(zs:List Int)(w:World),Go.Sort.Holds (Value.int .i64) w blk off zs.toArray->blk<w.heap.size->zs.length<4611686018427387904->
   Calls P f #[.slice (some ⟨blk,off,none⟩) zs.length cap] w λe w'=>e=.returned (.tuple #[])/\∃n os,w'=Sort.grow (Sort.putRow (Value.int .i64) (Sort.ahead w n) blk off (zs.mergeSort λx y=>decide (x<=y)).toArray) os) (l:List Int) (hlen:l.length<4611686018427387904):
 fD P G f [.rs 0 0] [(0,.arr e 1 (l.map F5) none)] (.c (.P7 [])) [(0,.arr e 1 ((l.mergeSort λx y=>decide (x<=y)).map F5) none)]:=by
 refine⟨hb,λZ w Eo vs hg hz hl hargs hgs=>?_⟩
 match vs,hl with
 |[v],_=>
  have hx:=hargs 0 (.rs 0 0) v rfl rfl;have hE:Eo 0=v:=by cases hx with|rs _ _ _ hs _ hp=>exact hp _ _ _ _ rfl
  obtain⟨xs,kW,hown,hfoc,oN,hcells,hnz⟩:=hg.ok 0;rw[hE]at hown hnz;have hres:∀w' (obj:I5),N7 Z w' obj Eo (.c (.P7 [])) (.tuple #[]):=λw' obj=>.c _ _ (.P7 [] [] rfl λi c x h=>by simp at h);obtain⟨hxl,hown⟩:=hown;simp only[U7,vY]at hxl hown;have hxs:xs=l.map (Value.int .i64):=by
   apply mY;intro i;by_cases hi:i<l.length
   .have hd:(l.map F5)[i]?=some (F5 l[i]):=by rw[O6,I9 hi];rfl
    obtain⟨_,u,hu,hr⟩:=hcells i _ (by simpa using hi) hd 0 _ rfl;have:u=.int .i64 l[i]:=by
     cases hr with
     |one h=>cases h with|cl h=>exact mO h
    grind
   .grind
  rcases hown with⟨rfl,h0⟩|⟨g,cap,cur,rfl,_,hh,hcap,hmax,hcs,htake⟩
  .have hl0:l=[]:=lX h0;subst hl0;refine(hnone none 0 w).mono λe' w' ⟨he,hw⟩=>⟨_,Z,Eo,he,?_⟩;subst hw;simp only[List.mergeSort];exact PK hg hz (hres _ _)
  .have hlt:g<w.heap.size:=(V4.1 hh).1;have hcur:∀i,i<l.length->cur[i]?=some (.int .i64 (l.getD i 0)):=λi hi=>by
    have h1:(cur.toList.take l.length)[i]?=(l.map (Value.int .i64))[i]?:=by grind
    grind
   have hH:Go.Sort.Holds (Value.int .i64) w g 0 l.toArray:=λj hj=>by
    have hj':j<l.length:=by grind
    constructor
    .have:=hcur j hj';simp only[World.cell?,hh,V7]
     grind
    .simp[World.frozen?,hh]
   refine(hsort g 0 cap l w hH hlt hlen).mono λe' w' ⟨he,n,os,hw⟩=>⟨_,Z,Eo,he,?_⟩;have hml:(l.mergeSort λx y=>decide (x<=y)).length=l.length:=by simp
   have hcell:w'.heap[g]?=some (.cells (Sort.putCells (Value.int .i64) 0 (l.mergeSort λx y=>decide (x<=y)).toArray cur) e (0,0)):=by
    rw[hw,Sort.heap_grow_old _ _ (by simpa using hlt)];simp only[Sort.putRow,Sort.mapBlock,Sort.heap_ahead,xH,hh];simp[Sort.onCells]
   have hblk:D9.blk (.arr e 1 (l.map F5) none) (Eo 0) g:=by rw[hE]
   have key:∀k,k<w.heap.size->k≠g->w'.heap[k]?=w.heap[k]?:=λk hk1 hk2=>by
    rw[hw];rw[Sort.heap_grow_old _ _ (by simpa using hk1)];simp only[Sort.putRow,Sort.mapBlock,Sort.heap_ahead,xH]
    grind
   have hks:Kept (λk=>k<w.heap.size/\k≠g) w w':=
    ⟨by rw[hw];rfl,by rw[hw];rfl,by rw[hw];rfl,by rw[hw];simp,λk hk=>key k hk.1 hk.2,λk hk=>(key k (V4.1 hk).1 (λe=>by rw[e,hh]at hk;exact nomatch hk)).trans hk⟩
   refine cw8 hg hz hblk (λc h=>by rw[hE]at h;cases h;rfl) hks (λc=>hnz g c rfl) ?_ bf9 (hres _ _);rw[hE];refine ay5 (sz:=1) (xs:=(l.mergeSort λx y=>decide (x<=y)).map (Value.int .i64)) (λ_=>rfl) Nat.one_pos ?_ (λi j a c ha hc=>?_) hnz
   .refine⟨by simp,.inr ⟨g,cap,_,by rw[hml],Y3 _,hcell,by rw[hml];exact hcap,hmax,by simp[Sort.putCells,hcs],?_⟩⟩;apply mY;intro i;rw[jK,vY,O6];by_cases hi:i<(l.mergeSort λx y=>decide (x<=y)).length
    .rw[I4 hi,jS,Sort.putCells,Array.getElem?_mapIdx,hcur i (by omega)]
     grind
    .grind
   .match j,hc with
    |0,hc=>
     simp[F5]at hc;subst hc;exact⟨rfl,.int .i64 a,by simp[O6,ha],.v _⟩
    |j+1,hc=>simp[F5]at hc
def ins(x:Int):List Int->List Int
 |[]=>[x]
 |y::r=>bif decide (x<=y)then x::y::r else y::ins x r
def qM:List Int->List Int
 |[]=>[]
 |x::r=>ins x (qM r)
theorem aJ6(x:Int):∀l:List Int,(ins x l).Perm (x::l)
 |[]=>.refl _
 |y::r=>by
  simp only[ins];cases decide (x<=y)with
  |true=>grind
  |false=>exact((aJ6 x r).cons y).trans (.swap x y r)
theorem XM:∀l:List Int,(qM l).Perm l
 |[]=>.refl _
 |x::r=>(aJ6 x (qM r)).trans ((XM r).cons x)
theorem bv1(x:Int):∀l:List Int,l.Pairwise (·<=·)->(ins x l).Pairwise (·<=·)
 |[],_=>by simp[ins]
 |y::r,h=>by
  simp only[ins];have h':=List.pairwise_cons.1 h;cases hd:decide (x<=y)with
  |true=>
   have hxy:=gB hd
   exact List.pairwise_cons.2 ⟨λz hz=>by
    rcases jT.1 hz with rfl|hz
    .exact hxy
    .exact Int.le_trans hxy (h'.1 z hz),h⟩
  |false=>
   have hxy:=wR hd
   exact List.pairwise_cons.2 ⟨λz hz=>by
    rcases jT.1 ((aJ6 x r).mem_iff.1 hz)with rfl|hz
    .omega
    .exact h'.1 z hz,bv1 x r h'.2⟩
theorem bv4:∀l:List Int,(qM l).Pairwise (·<=·)
 |[]=>.nil
 |x::r=>bv1 x _ (bv4 r)
theorem dj8{a b:List Int}(ha:a.Pairwise (·<=·))(hb:b.Pairwise (·<=·))(h:a.Perm b):a=b:=
 List.Perm.eq_of_pairwise (λ_ _ _ _ h1 h2=>Int.le_antisymm h1 h2) ha hb h
theorem cS1(l:List Int):(l.mergeSort λx y=>decide (x<=y))=qM l:=by
 have h:=List.pairwise_mergeSort (le:=λx y:Int=>decide (x<=y)) (λa b c h1 h2=>Y9 (Int.le_trans (gB h1) (gB h2))) (λa b=>by
  cases h:decide (a<=b)with
  |true=>rfl
  |false=>have:=wR h;simp;omega) l
 exact dj8 (h.imp λh=>gB h) (bv4 l) ((List.mergeSort_perm l _).trans (XM l).symm)
section
variable{P:Program}{G:World->Prop}
def mix{α:Type}(l:List α)(p q n:Nat):List α:=l.take p++((l.drop q).take n++l.drop (p+n))
end
section
variable{P:Program}{G:World->Prop}
def aN2:List CV->List CV->Prop
 |[],[]=>True
 |a::r,b::q=>(a=b\/∃sz,a=.sl 0 []/\b=.sl sz [])/\aN2 r q
 |_,_=>False
theorem bB8{Z:Zone}{w:World}:∀{cs1 cs2:List CV}{vs:List Value},aN2 cs1 cs2->O8 Z w cs1 vs->O8 Z w cs2 vs
 |[],[],_,_,h=>h
 |a::r,b::q,vs,hn,h=>by
  match vs,h with
  |[],h=>exact absurd h.1 (by simp)
  |v::vs,h=>
   refine O8.cons ?_ (bB8 hn.2 h.tail);have h0:=h.head;rcases hn.1 with rfl|⟨sz,rfl,rfl⟩
   .exact h0
   .generalize hds:([]:List (List CV))=ds at h0;cases h0 with
    |nil _ a cap=>exact .nil _ _ _
    |sl _ _ b o cap f=>subst hds;exact .nil _ _ _
 |[],_::_,_,hn,_=>hn.elim
 |_::_,[],_,hn,_=>hn.elim
theorem holds_nil{f:FuncId}{cs1 cs2:List CV}{r:CV}(h:Holds P G f cs2 r)(hn:aN2 cs1 cs2):Holds P G f cs1 r:=
 ⟨h.1,λZ w vs h1 h2 h3=>h.2 Z w vs (bB8 hn h1) h2 h3⟩
section
variable{α β:Type}[BEq α]{d:TypeDesc}{kc:α->Value}
end
end
end Go.F6
namespace Go.Proofs
open Go.Shelf Proofs.Tryz
def Tryz.cO7:Go.Shelf.Ren:=⟨λ|122=>63|215=>113|n=>n,λ|3=>3|4=>4|n=>n,λ|n=>n⟩
theorem Tryz.cO6:Go.Proofs.Lays.n122 prog Tryz.cO7:={
 mixed:=by kernel_rfl
 f122:=func63.trans (congrArg some (by kernel_rfl))
 f215:=func113.trans (congrArg some (by kernel_rfl))
 t3:=underlying3
 a3:=isAgg3
 z3:=sizeOf3
 v3:=zeroValue3
 t4:=underlying4
 a4:=isAgg4
 z4:=sizeOf4
 v4:=zeroValue4 }
open Go.RowKit in
theorem Tryz.cmp_Compare_int(x y:Int)(w:World):
 Calls prog 63 #[.int .i64 x,.int .i64 y] w λe w'=>e=.returned (.int .i64 (Lib.compareInt x y))/\w'=w:=Any.cmp_Compare_int Tryz.cO6 x y w
def Tryz.cO8:Go.Shelf.Ren:=⟨λ|143=>229|219=>308|217=>391|225=>392|224=>393|267=>394|266=>447|314=>448|n=>n,λ|9=>9|3=>3|4=>4|5=>5|46=>108|146=>175|51=>174|n=>n,λ|1=>0|n=>n⟩
theorem Tryz.lays143:Go.Proofs.Lays.n143 prog Tryz.cO8:={
 mixed:=by kernel_rfl
 f143:=func229.trans (congrArg some (by kernel_rfl))
 f217:=func391.trans (congrArg some (by kernel_rfl))
 f219:=func308.trans (congrArg some (by kernel_rfl))
 f224:=func393.trans (congrArg some (by kernel_rfl))
 f225:=func392.trans (congrArg some (by kernel_rfl))
 f266:=func447.trans (congrArg some (by kernel_rfl))
 f267:=func394.trans (congrArg some (by kernel_rfl))
 f314:=func448.trans (congrArg some (by kernel_rfl))
 t3:=underlying3
 a3:=isAgg3
 z3:=sizeOf3
 v3:=zeroValue3
 t4:=underlying4
 a4:=isAgg4
 z4:=sizeOf4
 v4:=zeroValue4
 t5:=underlying5
 a5:=isAgg5
 z5:=sizeOf5
 v5:=zeroValue5
 t9:=underlying9
 a9:=isAgg9
 z9:=sizeOf9
 v9:=zeroValue9
 t46:=underlying108
 a46:=isAgg108
 z46:=sizeOf108
 v46:=zeroValue108
 t51:=underlying174
 a51:=isAgg174
 z51:=sizeOf174
 v51:=zeroValue174
 t146:=underlying175
 a146:=isAgg175
 z146:=sizeOf175
 v146:=zeroValue175
 g1:=by kernel_rfl }
open Go.RowKit Go.Lib in
theorem Tryz.strings_Index(s sub:ByteArray)(m:Int)(w:World)(hs:s.size<4294967281)(hm:w.cell? ⟨0,0,none⟩=some (.int .i64 m)):
 Calls prog 229 #[.string s,.string sub] w λe w'=>e=.returned (.int .i64 (Lib.index s.data.toList sub.data.toList))/\w'=w:=Any.strings_Index Tryz.lays143 s sub m w hs hm
def Tryz.cO9:Go.Shelf.Ren:=⟨λ|144=>138|143=>229|219=>308|217=>391|225=>392|224=>393|267=>394|266=>447|314=>448|n=>n,λ|9=>9|4=>4|3=>3|5=>5|46=>108|146=>175|51=>174|n=>n,λ|1=>0|n=>n⟩
theorem Tryz.lays144:Go.Proofs.Lays.n144 prog Tryz.cO9:={
 mixed:=by kernel_rfl
 f143:=func229.trans (congrArg some (by kernel_rfl))
 f144:=func138.trans (congrArg some (by kernel_rfl))
 f217:=func391.trans (congrArg some (by kernel_rfl))
 f219:=func308.trans (congrArg some (by kernel_rfl))
 f224:=func393.trans (congrArg some (by kernel_rfl))
 f225:=func392.trans (congrArg some (by kernel_rfl))
 f266:=func447.trans (congrArg some (by kernel_rfl))
 f267:=func394.trans (congrArg some (by kernel_rfl))
 f314:=func448.trans (congrArg some (by kernel_rfl))
 t3:=underlying3
 a3:=isAgg3
 z3:=sizeOf3
 v3:=zeroValue3
 t4:=underlying4
 a4:=isAgg4
 z4:=sizeOf4
 v4:=zeroValue4
 t5:=underlying5
 a5:=isAgg5
 z5:=sizeOf5
 v5:=zeroValue5
 t9:=underlying9
 a9:=isAgg9
 z9:=sizeOf9
 v9:=zeroValue9
 t46:=underlying108
 a46:=isAgg108
 z46:=sizeOf108
 v46:=zeroValue108
 t51:=underlying174
 a51:=isAgg174
 z51:=sizeOf174
 v51:=zeroValue174
 t146:=underlying175
 a146:=isAgg175
 z146:=sizeOf175
 v146:=zeroValue175
 g1:=by kernel_rfl }
open Go.RowKit Go.Lib in
theorem Tryz.strings_Contains(s sub:ByteArray)(m:Int)(w:World)(hs:s.size<4294967281)(hm:w.cell? ⟨0,0,none⟩=some (.int .i64 m)):
 Calls prog 138 #[.string s,.string sub] w λe w'=>e=.returned (.bool (Lib.contains s.data.toList sub.data.toList))/\w'=w:=Any.strings_Contains Tryz.lays144 s sub m w hs hm
def Tryz.cP0:Go.Shelf.Ren:=⟨λ|189=>69|125=>93|257=>128|128=>160|129=>161|294=>214|295=>215|296=>216|297=>217|298=>218|299=>219|216=>220|300=>221|301=>222|328=>303|329=>242|330=>243|331=>304|332=>305|215=>113|343=>389|n=>n,λ|28=>26|3=>3|46=>108|0=>0|51=>174|53=>177|4=>4|183=>238|182=>237|131=>53|5=>5|9=>9|218=>322|222=>326|228=>387|229=>388|n=>n,λ|n=>n⟩
theorem Tryz.lays189:Go.Proofs.Lays.n189 prog Tryz.cP0:={
 mixed:=by kernel_rfl
 f125:=func93.trans (congrArg some (by kernel_rfl))
 f128:=func160.trans (congrArg some (by kernel_rfl))
 f129:=func161.trans (congrArg some (by kernel_rfl))
 f189:=func69.trans (congrArg some (by kernel_rfl))
 f215:=func113.trans (congrArg some (by kernel_rfl))
 f216:=func220.trans (congrArg some (by kernel_rfl))
 f257:=func128.trans (congrArg some (by kernel_rfl))
 f294:=func214.trans (congrArg some (by kernel_rfl))
 f295:=func215.trans (congrArg some (by kernel_rfl))
 f296:=func216.trans (congrArg some (by kernel_rfl))
 f297:=func217.trans (congrArg some (by kernel_rfl))
 f298:=func218.trans (congrArg some (by kernel_rfl))
 f299:=func219.trans (congrArg some (by kernel_rfl))
 f300:=func221.trans (congrArg some (by kernel_rfl))
 f301:=func222.trans (congrArg some (by kernel_rfl))
 f328:=func303.trans (congrArg some (by kernel_rfl))
 f329:=func242.trans (congrArg some (by kernel_rfl))
 f330:=func243.trans (congrArg some (by kernel_rfl))
 f331:=func304.trans (congrArg some (by kernel_rfl))
 f332:=func305.trans (congrArg some (by kernel_rfl))
 f343:=func389.trans (congrArg some (by kernel_rfl))
 t0:=underlying0
 a0:=isAgg0
 z0:=sizeOf0
 v0:=zeroValue0
 t3:=underlying3
 a3:=isAgg3
 z3:=sizeOf3
 v3:=zeroValue3
 t4:=underlying4
 a4:=isAgg4
 z4:=sizeOf4
 v4:=zeroValue4
 t5:=underlying5
 a5:=isAgg5
 z5:=sizeOf5
 v5:=zeroValue5
 t9:=underlying9
 a9:=isAgg9
 z9:=sizeOf9
 v9:=zeroValue9
 t28:=underlying26
 a28:=isAgg26
 z28:=sizeOf26
 v28:=zeroValue26
 t46:=underlying108
 a46:=isAgg108
 z46:=sizeOf108
 v46:=zeroValue108
 t51:=underlying174
 a51:=isAgg174
 z51:=sizeOf174
 v51:=zeroValue174
 t53:=underlying177
 a53:=isAgg177
 z53:=sizeOf177
 v53:=zeroValue177
 t131:=underlying53
 a131:=isAgg53
 z131:=sizeOf53
 v131:=zeroValue53
 t182:=underlying237
 a182:=isAgg237
 z182:=sizeOf237
 v182:=zeroValue237
 t183:=underlying238
 a183:=isAgg238
 z183:=sizeOf238
 v183:=zeroValue238
 t218:=underlying322
 a218:=isAgg322
 z218:=sizeOf322
 v218:=zeroValue322
 t222:=underlying326
 a222:=isAgg326
 z222:=sizeOf326
 v222:=zeroValue326
 t228:=underlying387
 a228:=isAgg387
 z228:=sizeOf387
 v228:=zeroValue387
 t229:=underlying388
 a229:=isAgg388
 z229:=sizeOf388
 v229:=zeroValue388 }
open Go.Sort Go.RowKit in
theorem Tryz.slices_Sort_int(blk off cap:Nat)(zs:List Int)(w:World)(hH:Holds (Value.int .i64) w blk off zs.toArray)(hblk:blk<w.heap.size)(hsz:zs.length<4611686018427387904):
 Calls prog 69 #[.slice (some ⟨blk,off,none⟩) zs.length cap] w λe w'=>
  e=.returned (.tuple #[])/\∃n os,w'=grow (putRow (Value.int .i64) (Sort.ahead w n) blk off (zs.mergeSort λx y=>decide (x<=y)).toArray) os:=Any.slices_Sort_int Tryz.lays189 blk off cap zs w hH hblk hsz
def Tryz.cP3:Go.Shelf.Ren:=⟨λ|17=>139|15=>230|20=>309|n=>n,λ|9=>9|23=>228|4=>4|3=>3|0=>0|21=>21|n=>n,λ|n=>n⟩
theorem Tryz.cP2:Go.Proofs.LaysGw.n17 prog Tryz.cP3:={
 mixed:=by kernel_rfl
 f15:=func230.trans (congrArg some (by kernel_rfl))
 f17:=func139.trans (congrArg some (by kernel_rfl))
 f20:=func309.trans (congrArg some (by kernel_rfl))
 t0:=underlying0
 a0:=isAgg0
 z0:=sizeOf0
 v0:=zeroValue0
 i0:=by kernel_rfl
 t3:=underlying3
 a3:=isAgg3
 z3:=sizeOf3
 v3:=zeroValue3
 i3:=by kernel_rfl
 t4:=underlying4
 a4:=isAgg4
 z4:=sizeOf4
 v4:=zeroValue4
 i4:=by kernel_rfl
 t9:=underlying9
 a9:=isAgg9
 z9:=sizeOf9
 v9:=zeroValue9
 i9:=by kernel_rfl
 t21:=underlying21
 a21:=isAgg21
 z21:=sizeOf21
 v21:=zeroValue21
 i21:=by kernel_rfl
 t23:=underlying228
 a23:=isAgg228
 z23:=sizeOf228
 v23:=zeroValue228
 i23:=by kernel_rfl }
open Go.RowKit Go.Lib in
theorem Tryz.strings_ContainsFunc_runes(g:Nat)(lb:Array Value)(eg:∀args w,(callFunc g args).run prog w=.ok (.enter g args) w)(p:Nat->Bool)(s:ByteArray)(w:World)(hp:PredAtRunes prog g lb p w):
 Calls prog 139 #[.string s,.func (.func g) #[] lb] w λe w'=>e=.returned (.bool (decide (0<=Lib.idxFunc p true s)))/\Below w.heap.size w w':=Any.strings_ContainsFunc_runes Tryz.cP2 g lb eg p s w hp
def Tryz.lays105_ren:Go.Shelf.Ren:=⟨λ|105=>18|212=>46|99=>47|165=>48|166=>49|170=>50|169=>51|263=>95|264=>96|206=>97|240=>98|241=>99|276=>163|277=>164|n=>n,λ|9=>9|3=>3|4=>4|20=>20|0=>0|46=>108|109=>109|5=>5|72=>115|76=>119|51=>174|146=>175|53=>177|148=>178|70=>112|37=>113|75=>118|127=>180|164=>245|80=>122|n=>n,λ|n=>n⟩
theorem Tryz.lays105:Go.Proofs.Lays.n105 prog Tryz.lays105_ren:={
 mixed:=by kernel_rfl
 f99:=func47.trans (congrArg some (by kernel_rfl))
 f105:=func18.trans (congrArg some (by kernel_rfl))
 f165:=func48.trans (congrArg some (by kernel_rfl))
 f166:=func49.trans (congrArg some (by kernel_rfl))
 f169:=func51.trans (congrArg some (by kernel_rfl))
 f170:=func50.trans (congrArg some (by kernel_rfl))
 f206:=func97.trans (congrArg some (by kernel_rfl))
 f212:=func46.trans (congrArg some (by kernel_rfl))
 f240:=func98.trans (congrArg some (by kernel_rfl))
 f241:=func99.trans (congrArg some (by kernel_rfl))
 f263:=func95.trans (congrArg some (by kernel_rfl))
 f264:=func96.trans (congrArg some (by kernel_rfl))
 f276:=func163.trans (congrArg some (by kernel_rfl))
 f277:=func164.trans (congrArg some (by kernel_rfl))
 t0:=underlying0
 a0:=isAgg0
 z0:=sizeOf0
 v0:=zeroValue0
 t3:=underlying3
 a3:=isAgg3
 z3:=sizeOf3
 v3:=zeroValue3
 t4:=underlying4
 a4:=isAgg4
 z4:=sizeOf4
 v4:=zeroValue4
 t5:=underlying5
 a5:=isAgg5
 z5:=sizeOf5
 v5:=zeroValue5
 t9:=underlying9
 a9:=isAgg9
 z9:=sizeOf9
 v9:=zeroValue9
 t20:=underlying20
 a20:=isAgg20
 z20:=sizeOf20
 v20:=zeroValue20
 t37:=underlying113
 a37:=isAgg113
 z37:=sizeOf113
 v37:=zeroValue113
 t46:=underlying108
 a46:=isAgg108
 z46:=sizeOf108
 v46:=zeroValue108
 t51:=underlying174
 a51:=isAgg174
 z51:=sizeOf174
 v51:=zeroValue174
 t53:=underlying177
 a53:=isAgg177
 z53:=sizeOf177
 v53:=zeroValue177
 t70:=underlying112
 a70:=isAgg112
 z70:=sizeOf112
 v70:=zeroValue112
 t72:=underlying115
 a72:=isAgg115
 z72:=sizeOf115
 v72:=zeroValue115
 t75:=underlying118
 a75:=isAgg118
 z75:=sizeOf118
 v75:=zeroValue118
 t76:=underlying119
 a76:=isAgg119
 z76:=sizeOf119
 v76:=zeroValue119
 t109:=underlying109
 a109:=isAgg109
 z109:=sizeOf109
 v109:=zeroValue109
 t127:=underlying180
 a127:=isAgg180
 z127:=sizeOf180
 v127:=zeroValue180
 t146:=underlying175
 a146:=isAgg175
 z146:=sizeOf175
 v146:=zeroValue175
 t148:=underlying178
 a148:=isAgg178
 z148:=sizeOf178
 v148:=zeroValue178
 t164:=underlying245
 a164:=isAgg245
 z164:=sizeOf245
 v164:=zeroValue245 }
theorem Tryz.Builder_Extra_105:Builder.Extra prog Tryz.lays105_ren:={
 sizeBuilder:=by kernel_rfl
 liesBuilder:=by kernel_rfl
 t5:=underlying5
 a5:=isAgg5
 z5:=sizeOf5
 v5:=zeroValue5
 infoByte:=by kernel_rfl
 cellsByte:=by kernel_rfl
 sizeByte:=by kernel_rfl
 neB5:=by decide }
open Go.RowKit Go.Lib in
theorem Tryz.strings_Repeat(s:ByteArray)(c:Nat)(w:World)(hc:c<=9223372036854775807)(hlen:s.size*c<=140737488355328):
 Calls prog 18 #[.string s,.int .i64 c] w λe w'=>e=.returned (.string ⟨(Lib.repeatL s.data.toList c).toArray⟩)/\Below w.heap.size w w':=Any.strings_Repeat Tryz.lays105 Tryz.Builder_Extra_105 s c w hc hlen
def Tryz.cP4:Go.Shelf.Ren:=⟨λ|15=>87|n=>n,λ|22=>26|3=>3|4=>4|n=>n,λ|n=>n⟩
theorem Tryz.laysNm215:Go.Proofs.Lays2.n15 prog Tryz.cP4:={
 mixed:=by kernel_rfl
 f15:=func87.trans (congrArg some (by kernel_rfl))
 t3:=underlying3
 a3:=isAgg3
 z3:=sizeOf3
 v3:=zeroValue3
 t4:=underlying4
 a4:=isAgg4
 z4:=sizeOf4
 v4:=zeroValue4
 t22:=underlying26
 a22:=isAgg26
 z22:=sizeOf26
 v22:=zeroValue26
 i3:=by kernel_rfl }
open Go.RowKit Go.Lib in
theorem Tryz.slices_Clone_int(b off n c:Nat)(zs:List Int)(w:World)(hz:n<=zs.length)(hbig:n*8<=140737488355328)(hc:∀j,j<zs.length->w.cell? ⟨b,off+j,none⟩=some (.int .i64 (zs.getD j 0))):
 Calls prog 87 #[.slice (some ⟨b,off,none⟩) n c] w λe w'=>∃v',e=.returned v'/\w'.ownsRow w.heap.size 3 1 v' n ((zs.take n).map (Value.int .i64))/\v'≠.slice none 0 0/\Below w.heap.size w w':=Any.slices_Clone_int Tryz.laysNm215 b off n c zs w hz hbig hc
open Go.RowKit Go.Lib in
theorem Tryz.slices_Clone_int_nil(n c:Nat)(w:World):
 Calls prog 87 #[.slice none n c] w λe w'=>e=.returned (.slice none 0 0)/\w'=w:=Any.slices_Clone_int_nil Tryz.laysNm215 n c w
open Go.RowKit Go.Lib in
theorem Tryz.slices_Clone_int_zero(a:Addr)(c:Nat)(w:World):
 Calls prog 87 #[.slice (some a) 0 c] w λe w'=>∃v',e=.returned v'/\w'.ownsRow w.heap.size 3 1 v' 0 []/\v'≠.slice none 0 0/\Below w.heap.size w w':=Any.slices_Clone_int_zero Tryz.laysNm215 a c w
open Go.RowKit Go.Sort in
theorem Tryz.slices_Sort_int_none(p:Option Addr)(cap:Nat)(w:World):
 Calls prog 69 #[.slice p 0 cap] w λe w'=>e=.returned (.tuple #[])/\w'=w:=Any.slices_Sort_int_none Tryz.lays189 p cap w
def Tryz.cP6:Go.Shelf.Ren:=⟨λ|10=>136|6=>190|n=>n,λ|22=>26|23=>3|25=>196|3=>3|4=>4|0=>0|n=>n,λ|n=>n⟩
theorem Tryz.cP5:Go.Proofs.SlLaysH.n10 prog Tryz.cP6:={
 mixed:=by kernel_rfl
 f6:=⟨Tryz.f190.name,by decide,func190.trans (congrArg some (by kernel_rfl))⟩
 f10:=⟨Tryz.f136.name,by decide,func136.trans (congrArg some (by kernel_rfl))⟩
 t0:=underlying0
 a0:=isAgg0
 z0:=sizeOf0
 v0:=zeroValue0
 t3:=underlying3
 a3:=isAgg3
 z3:=sizeOf3
 v3:=zeroValue3
 t4:=underlying4
 a4:=isAgg4
 z4:=sizeOf4
 v4:=zeroValue4
 t22:=underlying26
 a22:=isAgg26
 z22:=sizeOf26
 v22:=zeroValue26
 a23:=isAgg3
 z23:=sizeOf3
 t25:=underlying196
 a25:=isAgg196
 z25:=sizeOf196
 v25:=zeroValue196 }
open Go.RowKit Go.Lib Go.Sort in
theorem Tryz.slices_DeleteFunc{α:Type}[Inhabited α](enc:α->Value)(hO:OneCell enc)(p:α->Bool)(g:Nat)(lb:Array Value)(eg:∀args w,(callFunc g args).run prog w=.ok (.enter g args) w)(zr:α)(v23:∀w,(zeroValue 3).run prog w=.ok (enc zr) w)(blk off cap:Nat)(d:Array α)(w:World)(hp:PredAt prog g lb enc p w)(hpo:PredOver prog g lb enc p blk off d.size w)(hH:Holds enc w blk off d)(hsz:d.size<=9223372036854775807)(hcap:d.size<=cap):
 Calls prog 136 #[.slice (some ⟨blk,off,none⟩) d.size cap,.func (.func g) #[] lb] w λe w'=>e=.returned (.slice (some ⟨blk,off,none⟩) (d.toList.filter λx=> !p x).length cap)/\∃q,w'=putRow enc (Sort.ahead w q) blk off ((d.toList.filter λx=> !p x)++List.replicate (d.size-(d.toList.filter λx=> !p x).length) zr).toArray:=AnyE.slices_DeleteFunc Tryz.cP5 enc hO p g lb eg zr v23 blk off cap d w hp hpo hH hsz hcap
end Go.Proofs
namespace Go
abbrev l9:=@Or.inl
abbrev H9:=@Or.inr
end Go
namespace Go.Proofs.YtibiibjbmhckgaaGreatDoor
section
open Go Go.F6 Go.RowKit Proofs.Tryz
def Gw:World->Prop:=λw=>∃m,w.cell? ⟨0,0,none⟩=some (.int .i64 m)
theorem cell_lt{w:World}{a:Addr}{v:Value}(h:w.cell? a=some v):a.block<w.heap.size:=by
 rcases eG a.block w.heap.size with h'|h'
 .exact h'
 .simp[World.cell?,Array.getElem?_eq_none h']at h
theorem Gs:∀w w',Gw w->Below w.heap.size w w'->Gw w':=by
 rintro w w' ⟨m,hm⟩ hb;exact⟨m,(hb.cell (p:=⟨0,0,none⟩) (cell_lt hm)).trans hm⟩
theorem cells_one{Z:Zone}{w:World}{c:CV}{x:Value}(h:Rep Z w c x)(ha:c.atom=true):x.cells=#[x]:=by
 have:=h.atom ha;cases x<;>first|rfl|(simp[Value.oneCell']at this)
theorem cL8{p:Prop}[Decidable p]{q:Bool}{w:World}:(if p then Result.ok (Value.bool q) w else Result.ok (Value.bool false) w)=Result.ok (Value.bool (decide p&&q)) w:=by by_cases h:p<;>simp[h]
structure Origin where
 aK:Int
 U3:Int
 Number:Int
 deriving DecidableEq,Inhabited
def aA1(x:Origin):List CV:=[I x.aK,I x.U3,I x.Number]
structure Opn where
 ID:Int
 Day:Int
 Kind:Int
 Unit:Int
 Parent:Int
 Before:Int
 Level:Int
 Title:Str
 Mark:Str
 Origin:Origin
 deriving DecidableEq,Inhabited
def F7(x:Opn):List CV:=[I x.ID,I x.Day,I x.Kind,I x.Unit,I x.Parent,I x.Before,I x.Level,S x.Title,S x.Mark,I x.Origin.aK,I x.Origin.U3,I x.Origin.Number]
structure BJ where
 ID:Int
 Parent:Int
 Level:Int
 Title:Str
 Mark:Str
 deriving DecidableEq,Inhabited
def cm9(x:BJ):List CV:=[I x.ID,I x.Parent,I x.Level,S x.Title,S x.Mark]
structure Branch where
 Unit:BJ
 Kids:List Int
 deriving DecidableEq,Inhabited
def G8(x:Branch):List CV:=[I x.Unit.ID,I x.Unit.Parent,I x.Unit.Level,S x.Unit.Title,S x.Unit.Mark,.sl 1 (x.Kids.map F5)]
structure Tree where
 O1:List Int
 Branches:List Branch
 deriving DecidableEq,Inhabited
def dO(x:Tree):List CV:=[.sl 1 (x.O1.map F5),.sl 6 (x.Branches.map G8)]
structure Marking where
 Mark:Str
 Unit:Int
 deriving DecidableEq,Inhabited
structure Came where
 Unit:Int
 Origin:Origin
 deriving DecidableEq,Inhabited
def J7(x:Came):List CV:=[I x.Unit,I x.Origin.aK,I x.Origin.U3,I x.Origin.Number]
theorem cx8(x y:Opn):(x==y)=((x.ID==y.ID)&&(x.Day==y.Day)&&(x.Kind==y.Kind)&&(x.Unit==y.Unit)&&(x.Parent==y.Parent)&&(x.Before==y.Before)&&(x.Level==y.Level)&&(x.Title==y.Title)&&(x.Mark==y.Mark)&&(x.Origin.aK==y.Origin.aK)&&(x.Origin.U3==y.Origin.U3)&&(x.Origin.Number==y.Origin.Number)):=by
 obtain⟨q1,q2,q3,q4,q5,q6,q7,q8,q9,⟨q10,q11,q12⟩⟩:=x;obtain⟨q13,q14,q15,q16,q17,q18,q19,q20,q21,⟨q22,q23,q24⟩⟩:=y;rw[Bool.eq_iff_iff];simp[Origin.mk.injEq,Opn.mk.injEq,and_assoc]
theorem aa0(x y:Opn){a b:Operand}{ty z:TypeId}:dN prog Gw (.binOp .eql 33 a b z) ty [.c (.agg [I x.ID,I x.Day,I x.Kind,I x.Unit,I x.Parent,I x.Before,I x.Level,S x.Title,S x.Mark,I x.Origin.aK,I x.Origin.U3,I x.Origin.Number]),.c (.agg [I y.ID,I y.Day,I y.Kind,I y.Unit,I y.Parent,I y.Before,I y.Level,S y.Title,S y.Mark,I y.Origin.aK,I y.Origin.U3,I y.Origin.Number])] [] (.c (B (x==y))) []:=
 bl9 (xs:=[.int .i64 x.ID,.int .i64 x.Day,.int .i64 x.Kind,.int .i64 x.Unit,.int .i64 x.Parent,.int .i64 x.Before,.int .i64 x.Level,.string ⟨⟨x.Title⟩⟩,.string ⟨⟨x.Mark⟩⟩,.int .i64 x.Origin.aK,.int .i64 x.Origin.U3,.int .i64 x.Origin.Number]) (ys:=[.int .i64 y.ID,.int .i64 y.Day,.int .i64 y.Kind,.int .i64 y.Unit,.int .i64 y.Parent,.int .i64 y.Before,.int .i64 y.Level,.string ⟨⟨y.Title⟩⟩,.string ⟨⟨y.Mark⟩⟩,.int .i64 y.Origin.aK,.int .i64 y.Origin.U3,.int .i64 y.Origin.Number]) rfl rfl (by kernel_rfl) λw=>by
  rw[cx8];simp[run_eql_struct,underlying3,underlying9,underlying31,underlying33,go_sem];simp only[cL8];congr 2;rw[Bool.eq_iff_iff];simp[and_assoc,or_assoc]
theorem cx7(x y:BJ):(x==y)=((x.ID==y.ID)&&(x.Parent==y.Parent)&&(x.Level==y.Level)&&(x.Title==y.Title)&&(x.Mark==y.Mark)):=by
 obtain⟨q1,q2,q3,q4,q5⟩:=x;obtain⟨q6,q7,q8,q9,q10⟩:=y;rw[Bool.eq_iff_iff];simp[BJ.mk.injEq,and_assoc]
theorem dj5(x y:BJ){a b:Operand}{ty z:TypeId}:dN prog Gw (.binOp .neq 50 a b z) ty [.c (.agg [I x.ID,I x.Parent,I x.Level,S x.Title,S x.Mark]),.c (.agg [I y.ID,I y.Parent,I y.Level,S y.Title,S y.Mark])] [] (.c (B (!(x==y)))) []:=
 bl9 (xs:=[.int .i64 x.ID,.int .i64 x.Parent,.int .i64 x.Level,.string ⟨⟨x.Title⟩⟩,.string ⟨⟨x.Mark⟩⟩]) (ys:=[.int .i64 y.ID,.int .i64 y.Parent,.int .i64 y.Level,.string ⟨⟨y.Title⟩⟩,.string ⟨⟨y.Mark⟩⟩]) rfl rfl (by kernel_rfl) λw=>by
  rw[cx7];simp[run_neq_struct,underlying3,underlying9,underlying50,go_sem]
  (repeat' split)<;>simp_all
theorem bi4{f:FuncId}{args:List CV}{r:CV}{u:Value}(hb:pO prog f)(hr:r=.v u)
 (h:∀(Z:Zone)(w:World)(vs:List Value),O8 Z w args vs->(∀b o,Z b o->b<w.heap.size)->Gw w->Calls prog f vs.toArray w λe w'=>e=.returned u/\Below w.heap.size w w'):Holds prog Gw f args r:=
 bs6 hb λZ w vs h1 h2 h3=>(h Z w vs h1 h2 h3).mono λ_ _ ⟨he,hw⟩=>
  ⟨u,Z,he,hr▸ .v u,λ_ _ hz=>hz,λb o hz=>⟨.inl hz,Z5 (h2 b o hz) hw.size⟩,hw⟩
theorem sN{Z:Zone}{w:World}{x y:Value}(h:Rep Z w (.v x) y):y=x:=by cases h;rfl
def ZT(s sub:Str):Option Bool:=bif decide (s.length<4294967281)then some (Lib.contains s sub)else none
theorem bO8{s sub:Str}{r:Bool}(h:ZT s sub=some r):Holds prog Gw 138 [S s,S sub] (B r):=by
 refine kU h λhl h=>?_;refine bi4 (u:=.bool r) ⟨_,func138,by decide,rfl⟩ rfl λZ w vs h1 h2 h3=>?_
 match vs,h1 with
 |[x,y],h1=>
  have e1:=sN h1.head;have e2:=sN h1.tail.head;subst e1;subst e2;obtain⟨m,hm⟩:=h3;refine(Tryz.strings_Contains ⟨⟨s⟩⟩ ⟨⟨sub⟩⟩ m w (gB hl) hm).mono λe w' ⟨he,hw⟩=>⟨he.trans ?_,hw▸Below.refl _ _⟩;rw[<-iE h]
def tY(lo:Nat)(x:Nat):Bool:=decide (x<lo) || decide (126<x)
theorem ck3(w:World):PredAtRunes prog 310 #[] (tY 32) w:=λW r _ _=>by
 unfold FnGives;by_cases h1:r<32<;>by_cases h2:126<r
 all_goals
  have z1:(r:Int)<32↔r<32:=by omega
  have z2:(r:Int)>126↔126<r:=by omega
  go_enter func310,ntmps310
  go_wp2
  all_goals first|(exfalso;omega)|(go_ret;exact⟨by simp[tY,h1,h2],0,rfl⟩)
theorem cj9(w:World):PredAtRunes prog 140 #[] (tY 32) w:=λW r _ _=>by
 unfold FnGives;by_cases h1:r<32<;>by_cases h2:126<r
 all_goals
  have z1:(r:Int)<32↔r<32:=by omega
  have z2:(r:Int)>126↔126<r:=by omega
  go_enter func140,ntmps140
  go_wp2
  all_goals first|(exfalso;omega)|(go_ret;exact⟨by simp[tY,h1,h2],0,rfl⟩)
theorem ck0(w:World):PredAtRunes prog 311 #[] (tY 33) w:=λW r _ _=>by
 unfold FnGives;by_cases h1:r<33<;>by_cases h2:126<r
 all_goals
  have z1:(r:Int)<33↔r<33:=by omega
  have z2:(r:Int)>126↔126<r:=by omega
  go_enter func311,ntmps311
  go_wp2
  all_goals first|(exfalso;omega)|(go_ret;exact⟨by simp[tY,h1,h2],0,rfl⟩)
theorem cj8(w:World):PredAtRunes prog 141 #[] (tY 33) w:=λW r _ _=>by
 unfold FnGives;by_cases h1:r<33<;>by_cases h2:126<r
 all_goals
  have z1:(r:Int)<33↔r<33:=by omega
  have z2:(r:Int)>126↔126<r:=by omega
  go_enter func141,ntmps141
  go_wp2
  all_goals first|(exfalso;omega)|(go_ret;exact⟨by simp[tY,h1,h2],0,rfl⟩)
def vG(lo:Nat)(s:Str):Option Bool:=some (decide (0<=Lib.idxFunc (tY lo) true ⟨⟨s⟩⟩))
theorem aq2{f lo:Nat}{s:Str}{r:Bool}(ha:∀w,PredAtRunes prog f #[] (tY lo) w)(he:∀args w,(callFunc f args).run prog w=.ok (.enter f args) w)(h:vG lo s=some r):Holds prog Gw 139 [S s,.fn f []] (B r):=by
 refine bi4 (u:=.bool r) ⟨_,func139,by decide,rfl⟩ rfl λZ w vs h1 h2 h3=>?_
 match vs,h1 with
 |[x,y],h1=>
  have e1:=sN h1.head;have e2:=h1.tail.head;subst e1;cases e2 with
  |fn _ _ us hl _=>
   have:us=[]:=by cases us with|nil=>rfl|cons=>simp at hl
   subst this;refine(Tryz.strings_ContainsFunc_runes f #[] he (tY lo) _ w (ha w)).mono λe w' ⟨he,hw⟩=>⟨he.trans ?_,hw⟩;rw[<-iE h]
theorem dc5{s:Str}{r:Bool}(h:vG 32 s=some r):Holds prog Gw 139 [S s,.fn 310 []] (B r):=aq2 ck3 (enters_of func310 (by kernel_rfl) rfl) h
theorem dc3{s:Str}{r:Bool}(h:vG 32 s=some r):Holds prog Gw 139 [S s,.fn 140 []] (B r):=aq2 cj9 (enters_of func140 (by kernel_rfl) rfl) h
theorem dc4{s:Str}{r:Bool}(h:vG 33 s=some r):Holds prog Gw 139 [S s,.fn 311 []] (B r):=aq2 ck0 (enters_of func311 (by kernel_rfl) rfl) h
theorem dc2{s:Str}{r:Bool}(h:vG 33 s=some r):Holds prog Gw 139 [S s,.fn 141 []] (B r):=aq2 cj8 (enters_of func141 (by kernel_rfl) rfl) h
def aW3(l:List Int):Option (List Int):=bif decide (l.length<4611686018427387904)then some (qM l)else none
theorem di7{l r:List Int}(h:aW3 l=some r):fD prog Gw 69 [.rs 0 0] [(0,.arr 3 1 (l.map F5) none)] (.c (.P7 [])) [(0,.arr 3 1 (r.map F5) none)]:=by
 refine kU h λhl h=>?_;rw[<-iE h,<-cS1];exact cw4 ⟨_,func69,by decide,rfl⟩ (λp cap w=>Tryz.slices_Sort_int_none p cap w) (λblk off cap zs w h1 h2 h3=>Tryz.slices_Sort_int blk off cap zs w h1 h2 h3) l (gB hl)
end
section
open Go Go.F6 Proofs.Tryz
set_option maxRecDepth 10000
set_option maxHeartbeats 400000
abbrev aY5(y:Bool):CV:=B y
def MJ(n:Int)(low:Int)(high:Int):Option (Bool):=bif decide (low<=n)then some (decide (n<=high))else some (false)
theorem ac2{n:Int}{low:Int}{high:Int}{r:Bool}(hF:MJ n low high=some r):Holds prog Gw 223 [I n,I low,I high] (aY5 r):=by
 refine Q9 L8 mixed func223 (by decide) rfl (H6 rfl) ?_;refine J9 ?_;refine C9 (λh1=>?_) (λh1=>?_)
 .have hF:=D6 h1 hF;exact l9 ⟨rfl,congrArg (Option.map aY5) hF⟩
 .have hF:=D5 h1 hF;exact l9 ⟨rfl,congrArg (Option.map aY5) hF⟩
abbrev MG(y:Bool):CV:=B y
def au8(s:Str):Option (Bool):=bif decide ((s.length:Int)<1)then some (false)else(bif decide ((s.length:Int)>64)then some (false)else(Option.bind (ix s 0) λb3=>bif ((b3.toNat:Int)==32)then some (false)else(Option.bind (ix s (IntKind.i64.wrap ((s.length:Int)-1))) λb6=>bif ((b6.toNat:Int)==32)then some (false)else(Option.bind (ZT s ([32,32]:Str)) λy9=>bif y9 then some (false)else(Option.bind (vG 32 s) λlW=>some ((!lW)))))))
theorem b47{s:Str}{r:Bool}(hF:au8 s=some r):Holds prog Gw 231 [S s] (MG r):=by
 refine Q9 L8 mixed func231 (by decide) rfl (H6 rfl) ?_;refine J9 ?_;refine C9 (λh1=>?_) (λh1=>?_)
 .have hF:=D6 h1 hF;exact l9 ⟨rfl,congrArg (Option.map MG) hF⟩
 .have hF:=D5 h1 hF;refine C9 (λh2=>?_) (λh2=>?_)
  .have hF:=D6 h2 hF;exact l9 ⟨rfl,congrArg (Option.map MG) hF⟩
  .have hF:=D5 h2 hF;refine l9 ?_;refine D7 hF λb3 h4 hF=>?_;refine⟨V9 h4,_,al1 h4,?_⟩;refine C9 (λh5=>?_) (λh5=>?_)
   .have hF:=D6 h5 hF;exact l9 ⟨rfl,congrArg (Option.map MG) hF⟩
   .have hF:=D5 h5 hF;refine l9 ?_;refine D7 hF λb6 h7 hF=>?_;refine⟨V9 h7,_,al1 h7,?_⟩;refine C9 (λh8=>?_) (λh8=>?_)
    .have hF:=D6 h8 hF;exact l9 ⟨rfl,congrArg (Option.map MG) hF⟩
    .have hF:=D5 h8 hF;refine D7 hF λy9 h10 hF=>?_;refine l9 ⟨_,bO8 h10,rfl,?_⟩;refine C9 (λh11=>?_) (λh11=>?_)
     .have hF:=D6 h11 hF;exact l9 ⟨rfl,congrArg (Option.map MG) hF⟩
     .have hF:=D5 h11 hF;refine D7 hF λlW h13 hF=>?_;refine l9 ⟨_,dc5 h13,rfl,?_⟩;exact l9 ⟨rfl,congrArg (Option.map MG) hF⟩
abbrev aY1(y:Bool):CV:=B y
def TW(s:Str):Option (Bool):=Option.bind (MJ (s.length:Int) 1 64) λy1=>bif y1 then(Option.bind (vG 33 s) λy4=>some ((!y4)))else some (false)
theorem b46{s:Str}{r:Bool}(hF:TW s=some r):Holds prog Gw 232 [S s] (aY1 r):=by
 refine Q9 L8 mixed func232 (by decide) rfl (H6 rfl) ?_;refine J9 ?_;refine D7 hF λy1 h2 hF=>?_;refine l9 ⟨_,ac2 h2,rfl,?_⟩;refine C9 (λh3=>?_) (λh3=>?_)
 .have hF:=D6 h3 hF;refine D7 hF λy4 h5 hF=>?_;refine l9 ⟨_,dc4 h5,rfl,?_⟩;exact l9 ⟨rfl,congrArg (Option.map aY1) hF⟩
 .have hF:=D5 h3 hF;exact l9 ⟨rfl,congrArg (Option.map aY1) hF⟩
abbrev TT(y:Bool):CV:=B y
def TU(parent:Int)(child:Int):Option (Bool):=Option.bind (MJ parent 1 4) λy1=>bif (!y1)then some (false)else(Option.bind (MJ child 1 4) λy4=>bif (!y4)then some (false)else(bif decide (child>parent)then some (true)else(bif (parent==2)then some ((child==2))else some (false))))
theorem bU0{parent:Int}{child:Int}{r:Bool}(hF:TU parent child=some r):Holds prog Gw 131 [I parent,I child] (TT r):=by
 refine Q9 L8 mixed func131 (by decide) rfl (H6 rfl) ?_;refine J9 ?_;refine D7 hF λy1 h2 hF=>?_;refine l9 ⟨_,ac2 h2,rfl,?_⟩;refine C9 (λh3=>?_) (λh3=>?_)
 .have hF:=D6 h3 hF;exact l9 ⟨rfl,congrArg (Option.map TT) hF⟩
 .have hF:=D5 h3 hF;refine D7 hF λy4 h5 hF=>?_;refine l9 ⟨_,ac2 h5,rfl,?_⟩;refine C9 (λh6=>?_) (λh6=>?_)
  .have hF:=D6 h6 hF;exact l9 ⟨rfl,congrArg (Option.map TT) hF⟩
  .have hF:=D5 h6 hF;refine J9 ?_;refine C9 (λh7=>?_) (λh7=>?_)
   .have hF:=D6 h7 hF;exact l9 ⟨rfl,congrArg (Option.map TT) hF⟩
   .have hF:=D5 h7 hF;refine C9 (λh8=>?_) (λh8=>?_)
    .have hF:=D6 h8 hF;exact l9 ⟨rfl,congrArg (Option.map TT) hF⟩
    .have hF:=D5 h8 hF;exact l9 ⟨rfl,congrArg (Option.map TT) hF⟩
abbrev aq9(y:Int):CV:=I y
def LW(s:List Branch)(f:Branch->Option Bool):Nat->Int->Option (Int)
 |0,_=>none
 |fu1+1,v1=>bif decide (v1<((s.map G8).length:Int))then(Option.bind (ix s v1) λx3=>Option.bind (f x3) λy5=>bif y5 then some (v1)else LW s f fu1 (IntKind.i64.wrap (v1+1)))else some ((-1))
def bQ4(N:Nat)(s:List Branch)(f:Branch->Option Bool):Option (Int):=LW s f N 0
theorem dh7{N:Nat}{s:List Branch}{f:Branch->Option Bool}{r:Int}{fF:FuncId}{fE:List CV}(nI:∀z0 y,f z0=some y->Holds prog Gw fF (.agg (G8 z0)::fE) (B y))(hF:bQ4 N s f=some r):Holds prog Gw 224 [.sl 6 (s.map G8),.fn fF fE] (aq9 r):=by
 refine Q9 L8 mixed func224 (by decide) rfl (H6 rfl) ?_;refine dX (λp:Nat×Int=>[(0,.c (.sl 6 (s.map G8))),(1,.c (.fn fF fE)),(7,.c (I ((s.map G8).length:Int))),(8,.c (I p.2))]) (λ_=>[]) (λp=>LW s f p.1 p.2=some r) (λp=>p.1) (N,0) hF ⟨rfl,rfl,rfl,rfl,trivial⟩ trivial ?_;rintro⟨fu1,v1⟩ hF;cases fu1 with
 |zero=>exact nomatch hF
 |succ fu1=>
  refine J9 ?_;refine C9 (λh2=>?_) (λh2=>?_)
  .have hF:=D6 h2 hF;refine J9 ?_;refine D7 hF λx3 h4 hF=>?_;refine⟨V9 h4,.inl rfl,_,Y0 G8 h4,?_⟩;refine D7 hF λy5 h6 hF=>?_;refine l9 ⟨_,nI _ _ h6,rfl,?_⟩;refine C9 (λh7=>?_) (λh7=>?_)
   .have hF:=D6 h7 hF;exact l9 ⟨rfl,congrArg (Option.map aq9) hF⟩
   .have hF:=D5 h7 hF;exact⟨(fu1,(IntKind.i64.wrap (v1+1))),X8 _,hF,⟨rfl,rfl,rfl,rfl,trivial⟩,trivial⟩
  .have hF:=D5 h2 hF;exact l9 ⟨rfl,congrArg (Option.map aq9) hF⟩
abbrev aa5(s:List Branch)(f:Branch->Option Bool):Option (Int):=bQ4 (s.length+1) s f
theorem aV8{s:List Branch}{f:Branch->Option Bool}{r:Int}{fF:FuncId}{fE:List CV}(nI:∀z0 y,f z0=some y->Holds prog Gw fF (.agg (G8 z0)::fE) (B y))(h:aa5 s f=some r):Holds prog Gw 224 [.sl 6 (s.map G8),.fn fF fE] (aq9 r):=dh7 nI h
abbrev b35(y:Bool):CV:=B y
def aX7(b:Branch)(c0:Int):Option (Bool):=some ((b.Unit.ID==c0))
theorem dt1{b:Branch}{c0:Int}{r:Bool}(hF:aX7 b c0=some r):Holds prog Gw 312 [.agg (G8 b),.pi [I c0] 0] (b35 r):=by
 refine Q9 L8 mixed func312 (by decide) rfl (H6 rfl) ?_;refine l9 ?_;exact l9 ⟨rfl,congrArg (Option.map b35) hF⟩
abbrev b36(y:Int):CV:=I y
def ab6(t:Tree)(id:Int):Option (Int):=Option.bind (aa5 t.Branches (λz0=>aX7 z0 id)) λy1=>some (y1)
theorem b38{t:Tree}{id:Int}{r:Int}(hF:ab6 t id=some r):Holds prog Gw 235 [.agg (dO t),I id] (b36 r):=by
 refine Q9 L8 mixed func235 (by decide) rfl (H6 rfl) ?_;refine l9 ?_;refine l9 ?_;refine D7 hF λy1 h2 hF=>?_;refine l9 ⟨_,aV8 (λ_ _ h=>dt1 h) h2,rfl,?_⟩;exact l9 ⟨rfl,congrArg (Option.map b36) hF⟩
abbrev bP8(y:Bool):CV:=B y
def zY(s:List Branch)(f:Branch->Option Bool):Option (Bool):=Option.bind (aa5 s f) λy1=>some (decide (y1>=0))
theorem aq6{s:List Branch}{f:Branch->Option Bool}{r:Bool}{fF:FuncId}{fE:List CV}(nI:∀z0 y,f z0=some y->Holds prog Gw fF (.agg (G8 z0)::fE) (B y))(hF:zY s f=some r):Holds prog Gw 233 [.sl 6 (s.map G8),.fn fF fE] (bP8 r):=by
 refine Q9 L8 mixed func233 (by decide) rfl (H6 rfl) ?_;refine D7 hF λy1 h2 hF=>?_;refine l9 ⟨_,aV8 nI h2,rfl,?_⟩;exact l9 ⟨rfl,congrArg (Option.map bP8) hF⟩
abbrev bU3(y:Bool):CV:=B y
def FD(b:Branch)(c0:BJ):Option (Bool):=some ((b.Unit.Mark==c0.Mark))
theorem as5{b:Branch}{c0:BJ}{r:Bool}(hF:FD b c0=some r):Holds prog Gw 234 [.agg (G8 b),.pi (cm9 c0) 0] (bU3 r):=by
 refine Q9 L8 mixed func234 (by decide) rfl (H6 rfl) ?_;refine l9 ?_;exact l9 ⟨rfl,congrArg (Option.map bU3) hF⟩
abbrev jR(y:Int):CV:=I y
def ab4(t:Tree)(i:Int):Option (Int):=Option.bind (ix t.Branches i) λx1=>Option.bind (MJ x1.Unit.ID 1 1073741824) λy3=>bif (!y3)then some (2)else(Option.bind (MJ x1.Unit.Level 1 4) λy6=>bif (!y6)then some (2)else(bif decide (i>0)then(Option.bind (ix t.Branches (IntKind.i64.wrap (i-1))) λx10=>bif decide (x1.Unit.ID<=x10.Unit.ID)then some (5)else(Option.bind (au8 x1.Unit.Title) λy13=>bif (!y13)then some (4)else(bif (!(x1.Unit.Mark==([]:Str)))then(Option.bind (TW x1.Unit.Mark) λFZ=>bif (!FZ)then some (1)else(bif (!(x1.Unit.Mark==([]:Str)))then(Option.bind (slc t.Branches 0 i) λy21=>Option.bind (zY y21 (λz0=>FD z0 x1.Unit)) λy23=>bif y23 then some (19)else some (0))else some (0)))else(bif (!(x1.Unit.Mark==([]:Str)))then(Option.bind (slc t.Branches 0 i) λy27=>Option.bind (zY y27 (λz0=>FD z0 x1.Unit)) λy29=>bif y29 then some (19)else some (0))else some (0)))))else(Option.bind (au8 x1.Unit.Title) λy32=>bif (!y32)then some (4)else(bif (!(x1.Unit.Mark==([]:Str)))then(Option.bind (TW x1.Unit.Mark) λy36=>bif (!y36)then some (1)else(bif (!(x1.Unit.Mark==([]:Str)))then(Option.bind (slc t.Branches 0 i) λxC=>Option.bind (zY xC (λz0=>FD z0 x1.Unit)) λy42=>bif y42 then some (19)else some (0))else some (0)))else(bif (!(x1.Unit.Mark==([]:Str)))then(Option.bind (slc t.Branches 0 i) λy46=>Option.bind (zY y46 (λz0=>FD z0 x1.Unit)) λy48=>bif y48 then some (19)else some (0))else some (0))))))
theorem do0{t:Tree}{i:Int}{r:Int}(hF:ab4 t i=some r):Holds prog Gw 144 [.agg (dO t),I i] (jR r):=by
 refine Q9 L8 mixed func144 (by decide) rfl (H6 rfl) ?_;refine l9 ?_;refine D7 hF λx1 h2 hF=>?_;refine⟨V9 h2,.inl rfl,_,Y0 G8 h2,?_⟩;refine l9 ?_;refine J9 ?_;refine J9 ?_;refine D7 hF λy3 h4 hF=>?_;refine l9 ⟨_,ac2 h4,rfl,?_⟩;refine C9 (λh5=>?_) (λh5=>?_)
 .have hF:=D6 h5 hF;exact l9 ⟨rfl,congrArg (Option.map jR) hF⟩
 .have hF:=D5 h5 hF;refine D7 hF λy6 h7 hF=>?_;refine l9 ⟨_,ac2 h7,rfl,?_⟩;refine C9 (λh8=>?_) (λh8=>?_)
  .have hF:=D6 h8 hF;exact l9 ⟨rfl,congrArg (Option.map jR) hF⟩
  .have hF:=D5 h8 hF;refine J9 ?_;refine C9 (λh9=>?_) (λh9=>?_)
   .have hF:=D6 h9 hF;refine D7 hF λx10 h11 hF=>?_;refine⟨V9 h11,.inl rfl,_,Y0 G8 h11,?_⟩;refine C9 (by kernel_rfl) ?_;refine C9 (λh12=>?_) (λh12=>?_)
    .have hF:=D6 h12 hF;exact l9 ⟨rfl,congrArg (Option.map jR) hF⟩
    .have hF:=D5 h12 hF;refine D7 hF λy13 aF hF=>?_;refine l9 ⟨_,b47 aF,rfl,?_⟩;refine C9 (λh15=>?_) (λh15=>?_)
     .have hF:=D6 h15 hF;exact l9 ⟨rfl,congrArg (Option.map jR) hF⟩
     .have hF:=D5 h15 hF;refine J9 ?_;refine C9 (λh16=>?_) (λh16=>?_)
      .have hF:=D6 h16 hF;refine D7 hF λFZ h18 hF=>?_;refine l9 ⟨_,b46 h18,rfl,?_⟩;refine C9 (λh19=>?_) (λh19=>?_)
       .have hF:=D6 h19 hF;exact l9 ⟨rfl,congrArg (Option.map jR) hF⟩
       .have hF:=D5 h19 hF;refine J9 ?_;refine C9 (λh20=>?_) (λh20=>?_)
        .have hF:=D6 h20 hF;refine D7 hF λy21 h22 hF=>?_;refine H9 ⟨[],0,_,_,_,_,rfl,rfl,PI (cf:=G8) au9.u vO h22,rfl,?_⟩;refine D7 hF λy23 DT hF=>?_;refine l9 ⟨_,aq6 (λ_ _ h=>as5 h) DT,rfl,?_⟩;refine C9 (λmF=>?_) (λmF=>?_)
         .have hF:=D6 mF hF;exact l9 ⟨rfl,congrArg (Option.map jR) hF⟩
         .have hF:=D5 mF hF;exact l9 ⟨rfl,congrArg (Option.map jR) hF⟩
        .have hF:=D5 h20 hF;exact l9 ⟨rfl,congrArg (Option.map jR) hF⟩
      .have hF:=D5 h16 hF;refine J9 ?_;refine C9 (λqI=>?_) (λqI=>?_)
       .have hF:=D6 qI hF;refine D7 hF λy27 h28 hF=>?_;refine H9 ⟨[],0,_,_,_,_,rfl,rfl,PI (cf:=G8) au9.u vO h28,rfl,?_⟩;refine D7 hF λy29 h30 hF=>?_;refine l9 ⟨_,aq6 (λ_ _ h=>as5 h) h30,rfl,?_⟩;refine C9 (λh31=>?_) (λh31=>?_)
        .have hF:=D6 h31 hF;exact l9 ⟨rfl,congrArg (Option.map jR) hF⟩
        .have hF:=D5 h31 hF;exact l9 ⟨rfl,congrArg (Option.map jR) hF⟩
       .have hF:=D5 qI hF;exact l9 ⟨rfl,congrArg (Option.map jR) hF⟩
   .have hF:=D5 h9 hF;refine C9 (by kernel_rfl) ?_;refine D7 hF λy32 JQ hF=>?_;refine l9 ⟨_,b47 JQ,rfl,?_⟩;refine C9 (λyS=>?_) (λyS=>?_)
    .have hF:=D6 yS hF;exact l9 ⟨rfl,congrArg (Option.map jR) hF⟩
    .have hF:=D5 yS hF;refine J9 ?_;refine C9 (λh35=>?_) (λh35=>?_)
     .have hF:=D6 h35 hF;refine D7 hF λy36 h37 hF=>?_;refine l9 ⟨_,b46 h37,rfl,?_⟩;refine C9 (λh38=>?_) (λh38=>?_)
      .have hF:=D6 h38 hF;exact l9 ⟨rfl,congrArg (Option.map jR) hF⟩
      .have hF:=D5 h38 hF;refine J9 ?_;refine C9 (λyT=>?_) (λyT=>?_)
       .have hF:=D6 yT hF;refine D7 hF λxC uK hF=>?_;refine H9 ⟨[],0,_,_,_,_,rfl,rfl,PI (cf:=G8) au9.u vO uK,rfl,?_⟩;refine D7 hF λy42 h43 hF=>?_;refine l9 ⟨_,aq6 (λ_ _ h=>as5 h) h43,rfl,?_⟩;refine C9 (λWU=>?_) (λWU=>?_)
        .have hF:=D6 WU hF;exact l9 ⟨rfl,congrArg (Option.map jR) hF⟩
        .have hF:=D5 WU hF;exact l9 ⟨rfl,congrArg (Option.map jR) hF⟩
       .have hF:=D5 yT hF;exact l9 ⟨rfl,congrArg (Option.map jR) hF⟩
     .have hF:=D5 h35 hF;refine J9 ?_;refine C9 (λh45=>?_) (λh45=>?_)
      .have hF:=D6 h45 hF;refine D7 hF λy46 h47 hF=>?_;refine H9 ⟨[],0,_,_,_,_,rfl,rfl,PI (cf:=G8) au9.u vO h47,rfl,?_⟩;refine D7 hF λy48 h49 hF=>?_;refine l9 ⟨_,aq6 (λ_ _ h=>as5 h) h49,rfl,?_⟩;refine C9 (λh50=>?_) (λh50=>?_)
       .have hF:=D6 h50 hF;exact l9 ⟨rfl,congrArg (Option.map jR) hF⟩
       .have hF:=D5 h50 hF;exact l9 ⟨rfl,congrArg (Option.map jR) hF⟩
      .have hF:=D5 h45 hF;exact l9 ⟨rfl,congrArg (Option.map jR) hF⟩
abbrev MH(y:Int):CV:=I y
def ac1(t:Tree)(i:Int):Option (Int):=Option.bind (ix t.Branches i) λx1=>bif (x1.Unit.Parent==0)then(bif (x1.Unit.Level !=1)then some (18)else some (0))else(Option.bind (ab6 t x1.Unit.Parent) λy5=>bif decide (y5<0)then some (7)else(bif (x1.Unit.Level==1)then some (18)else(Option.bind (ix t.Branches y5) λx9=>Option.bind (TU x9.Unit.Level x1.Unit.Level) λdD=>bif (!dD)then some (18)else some (0))))
theorem du0{t:Tree}{i:Int}{r:Int}(hF:ac1 t i=some r):Holds prog Gw 145 [.agg (dO t),I i] (MH r):=by
 refine Q9 L8 mixed func145 (by decide) rfl (H6 rfl) ?_;refine l9 ?_;refine D7 hF λx1 h2 hF=>?_;refine⟨V9 h2,.inl rfl,_,Y0 G8 h2,?_⟩;refine l9 ?_;refine C9 (λh3=>?_) (λh3=>?_)
 .have hF:=D6 h3 hF;refine C9 (λh4=>?_) (λh4=>?_)
  .have hF:=D6 h4 hF;exact l9 ⟨rfl,congrArg (Option.map MH) hF⟩
  .have hF:=D5 h4 hF;exact l9 ⟨rfl,congrArg (Option.map MH) hF⟩
 .have hF:=D5 h3 hF;refine D7 hF λy5 h6 hF=>?_;refine l9 ⟨_,b38 h6,rfl,?_⟩;refine J9 ?_;refine C9 (λh7=>?_) (λh7=>?_)
  .have hF:=D6 h7 hF;exact l9 ⟨rfl,congrArg (Option.map MH) hF⟩
  .have hF:=D5 h7 hF;refine J9 ?_;refine C9 (λh8=>?_) (λh8=>?_)
   .have hF:=D6 h8 hF;refine C9 (by kernel_rfl) ?_;exact l9 ⟨rfl,congrArg (Option.map MH) hF⟩
   .have hF:=D5 h8 hF;refine D7 hF λx9 h10 hF=>?_;refine⟨V9 h10,.inl rfl,_,Y0 G8 h10,?_⟩;refine D7 hF λdD h12 hF=>?_;refine l9 ⟨_,bU0 h12,rfl,?_⟩;refine C9 (by kernel_rfl) ?_;refine C9 (λh13=>?_) (λh13=>?_)
    .have hF:=D6 h13 hF;exact l9 ⟨rfl,congrArg (Option.map MH) hF⟩
    .have hF:=D5 h13 hF;exact l9 ⟨rfl,congrArg (Option.map MH) hF⟩
def aU7:{p:Array Nat×Code×Code // (uZ (Tryz.f282.body.getD .skip))[0]?=some p}:=⟨(_,_,_),rfl⟩
def aU6(R:Loop):Prop:=R.params=aU7.1.1/\R.assign=aU7.1.2.1/\R.body=aU7.1.2.2/\R.tmps.size=13
theorem dg6{R:Loop}(h:aU6 R):1=R.params.size:=by rw[h.1];rfl
def aU8(o2:List Int)(a7:Int):Option (List Int):=bif decide (o2.length+([a7]:List Int).length<=4294967296)then some ((o2++([a7]:List Int)))else none
theorem dg5{o2:List Int}{a7:Int}{r:List Int}{l:Nat}{R:Loop}(hR:aU6 R)(hF:aU8 o2 a7=some r):NJ prog Gw l R (jA [(2,.pm 1 0 0)] 13 0) [.c (I a7)] [(0,.lp l R .on),(0,.varx [.rs 2 0]),(0,.arr 3 1 (o2.map F5) none)] (.c (.v (.bool true))) [(0,.lp l R .on),(0,.varx [.rs 2 1]),(1,.arr 3 1 (r.map F5) none)]:=by
 refine ai3 [2] L8 mixed 0 hR.1 hR.2.1 hR.2.2.1 hR.2.2.2 rfl ?_;refine⟨rfl,?_⟩;refine l9 ?_;refine l9 ?_;refine kU hF λh1 hF=>?_;refine H9 ⟨[(2147614720,0)],0,_,_,_,_,rfl,rfl,IZ (cf:=F5) (l:=o2) (ns:=([a7]:List Int)) aY2.u rE (by decide) (by decide) (λ_=>rfl) h1,rfl,?_⟩;refine l9 ?_;refine W9 (p:=λr=>wX [2] 0 l R 3 (.c (.v (.bool true))) [(0,.lp l R .on),(0,.varx [.rs 2 1]),(1,.arr 3 1 (r.map F5) none)] .on true _) hF ?_;exact⟨rfl,rfl,[(4294967296,0),(4295032832,0),(2147614720,1)],[0,0,1],rfl,rfl⟩
theorem dj2{s:List Int}:fD prog Gw 116 [.c (.sl 1 (s.map F5))] [] (.Q7 202 [.pm 0 1 0]) [(1,.var [.sl 1 (s.map F5)])]:=by
 refine rX L8 mixed func116 (by decide) rfl (H6 rfl) rfl ?_;refine l9 ?_;exact⟨[(1,1)],[1],rfl,rfl,rfl⟩
def TL(u3:List Int):Nat->Int->List Int->Option (List Int)
 |0,_,_=>none
 |fu1+1,v1,v2=>bif decide (v1<((u3.map F5).length:Int))then(Option.bind (ix u3 v1) λx4=>Option.bind (aU8 v2 x4) λy6=>TL u3 fu1 (IntKind.i64.wrap (v1+1)) y6)else some (v2)
def bS3(N:Nat)(o2:List Int)(u3:List Int):Option (List Int):=TL u3 N 0 o2
theorem dj0{N:Nat}{o2:List Int}{u3:List Int}{r:List Int}{l:Nat}{R:Loop}(hR:aU6 R)(hF:bS3 N o2 u3=some r):fD prog Gw 202 [.Q7 (.yl l R.tmps.toList) (jA [(2,.pm 1 0 0)] 13 0),.pm 3 0 0] [(0,.lp l R .on),(0,.varx [.rs 2 0]),(0,.arr 3 1 (o2.map F5) none),(0,.var [.sl 1 (u3.map F5)])] (.c (.P7 [])) [(0,.lp l R .on),(0,.varx [.rs 2 1]),(1,.arr 3 1 (r.map F5) none),(0,.var [.sl 1 (u3.map F5)])]:=by
 refine aD0 [2] L8 mixed func202 (by decide) rfl (H6 rfl) rfl ?_;refine dX (λp:Nat×Int×List Int=>[(0,.Q7 (.yl l R.tmps.toList) (jA [(2,.pm 4295032832 0 0)] 13 0)),(5,.c (.sl 1 (u3.map F5))),(6,.c (I ((u3.map F5).length:Int))),(7,.c (I p.2.1))]) (λp:Nat×Int×List Int=>[(4294967296,.lp l R .on),(4295032832,.varx [.rs 2147614720 0]),(2147614720,.arr 3 1 (p.2.2.map F5) none),(4295163904,.var [.sl 1 (u3.map F5)])]) (λp=>TL u3 p.1 p.2.1 p.2.2=some r) (λp=>p.1) (N,0,o2) hF ⟨rfl,rfl,rfl,rfl,trivial⟩ ⟨rfl,rfl,rfl,rfl,trivial⟩ ?_;rintro⟨fu1,v1,v2⟩ hF;cases fu1 with
 |zero=>exact nomatch hF
 |succ fu1=>
  refine J9 ?_;refine C9 (λh3=>?_) (λh3=>?_)
  .have hF:=D6 h3 hF;refine J9 ?_;refine D7 hF λx4 h5 hF=>?_;refine⟨V9 h5,.inl rfl,_,Y0 F5 h5,?_⟩;refine D7 hF λy6 h7 hF=>?_;refine H9 ⟨[(4294967296,0),(4295032832,0),(2147614720,0)],0,_,_,_,_,rfl,rfl,PG rfl 0 rfl (dg6 hR) (dg5 hR h7),rfl,?_⟩;refine C9 (λh8=>?_) (λh8=>?_)
   .exact absurd h8 (by simp)
   .skip
    exact⟨(fu1,(IntKind.i64.wrap (v1+1)),y6),X8 _,hF,⟨rfl,rfl,rfl,rfl,trivial⟩,⟨rfl,rfl,rfl,rfl,trivial⟩⟩
  .have hF:=D5 h3 hF;refine W9 (p:=λr=>PD tab _ 4 [2] (.c (.P7 [])) [(0,.lp l R .on),(0,.varx [.rs 2 1]),(1,.arr 3 1 (r.map F5) none),(0,.var [.sl 1 (u3.map F5)])] _) hF ?_;exact⟨[(4294967296,0),(4295032832,0),(2147614720,0),(4295163904,0)],[0,0,1,0],rfl,rfl,rfl⟩
abbrev bS4:=bS3 1000
abbrev dj1:=@dj0 1000
def aU9(u0:List Int):Option (List Int):=Option.bind (bS4 ([]:List Int) u0) λy1=>some (y1)
theorem dg7{u0:List Int}{r:List Int}(hF:aU9 u0=some r):fD prog Gw 282 [.c (.v (.slice none 0 0)),.Q7 202 [.pm 0 0 0]] [(0,.var [.sl 1 (u0.map F5)])] (.rs 1 1) [(0,.var [.sl 1 (u0.map F5)]),(1,.arr 3 1 (r.map F5) none)]:=by
 refine rX L8 mixed func282 (by decide) rfl (H6 rfl) rfl ?_;refine H9 ⟨[],0,_,_,_,_,rfl,rfl,cv7 (e:=3) (ie:=nT) (by decide),rfl,?_⟩;refine l9 ?_;refine D7 hF λy1 h2 hF=>?_;refine YU.mk ?_;refine⟨60000,jA [(2,.pm 2 1 0)] 13 0,_,_,l9 rfl,rfl,(by refine WG ?_ 13 0;exact⟨rfl,trivial⟩),λl R hp ha hb hn=>⟨[(60000,1),(2,1),(65538,1),(4294967296,0)],0,_,_,_,_,rfl,rfl,dj1 ⟨hp,ha,hb,hn⟩ h2,rfl,_,true,.skip,rfl,λ_=>?_,λhb=>nomatch hb⟩⟩;refine l9 ?_;refine W9 (p:=λr=>aH tab _ 1 (.rs 1 1) [(0,.var [.sl 1 (u0.map F5)]),(1,.arr 3 1 (r.map F5) none)] _) hF ?_;exact⟨[(4294967296,0),(65538,2)],[0,1],rfl,rfl,rfl⟩
def aV4(u0:List Int):Option (List Int):=Option.bind (aU9 u0) λy1=>some (y1)
theorem dh2{u0:List Int}{r:List Int}(hF:aV4 u0=some r):fD prog Gw 201 [.Q7 202 [.pm 0 0 0]] [(0,.var [.sl 1 (u0.map F5)])] (.rs 1 1) [(0,.var [.sl 1 (u0.map F5)]),(1,.arr 3 1 (r.map F5) none)]:=by
 refine rX L8 mixed func201 (by decide) rfl (H6 rfl) rfl ?_;refine l9 ?_;refine D7 hF λy1 h2 hF=>?_;refine H9 (H9 ⟨[(4294967296,0)],0,_,_,_,_,rfl,rfl,cw0 (as':=[.c (.v (.slice none 0 0)),.Q7 202 [.pm 0 0 0]]) rfl (H9 ⟨_,rfl,rfl⟩) ⟨.inr ⟨rfl,rfl⟩,.inl rfl,trivial⟩ (dg7 h2),rfl,?_⟩);refine W9 (p:=λr=>aH tab _ 1 (.rs 1 1) [(0,.var [.sl 1 (u0.map F5)]),(1,.arr 3 1 (r.map F5) none)] _) hF ?_;exact⟨[(4294967296,0),(65540,1)],[0,1],rfl,rfl,rfl⟩
def ar5(u0:List Int):Option (List Int):=Option.bind (aV4 u0) λy1=>Option.bind (aW3 y1) λy3=>some (y3)
theorem di8{u0:List Int}{r:List Int}(hF:ar5 u0=some r):fD prog Gw 115 [.Q7 202 [.pm 0 0 0]] [(0,.var [.sl 1 (u0.map F5)])] (.rs 1 1) [(0,.var [.sl 1 (u0.map F5)]),(1,.arr 3 1 (r.map F5) none)]:=by
 refine rX L8 mixed func115 (by decide) rfl (H6 rfl) rfl ?_;refine l9 ?_;refine D7 hF λy1 h2 hF=>?_;refine H9 (H9 ⟨[(4294967296,0)],0,_,_,_,_,rfl,rfl,lK rfl (H9 ⟨_,rfl,rfl⟩) (dh2 h2),rfl,?_⟩);refine D7 hF λy3 h4 hF=>?_;refine H9 (H9 ⟨[(65541,1)],0,_,_,_,_,rfl,rfl,lK rfl (H9 ⟨_,rfl,rfl⟩) (di7 h4),rfl,?_⟩);refine W9 (p:=λr=>aH tab _ 1 (.rs 1 1) [(0,.var [.sl 1 (u0.map F5)]),(1,.arr 3 1 (r.map F5) none)] _) hF ?_;exact⟨[(4294967296,0),(65541,1)],[0,1],rfl,rfl,rfl⟩
abbrev aa4(y:Bool):CV:=B y
def TJ(s1:List Int)(s2:List Int):Nat->Int->Option (Bool)
 |0,_=>none
 |fu1+1,v2=>bif decide (v2<((s1.map F5).length:Int))then(Option.bind (ix s1 v2) λx4=>Option.bind (ix s2 v2) λx6=>bif (x4 !=x6)then some (false)else TJ s1 s2 fu1 (IntKind.i64.wrap (v2+1)))else some (true)
def aV6(N:Nat)(s1:List Int)(s2:List Int):Option (Bool):=bif (((s1.map F5).length:Int) !=((s2.map F5).length:Int))then some (false)else TJ s1 s2 N 0
theorem dh4{N:Nat}{s1:List Int}{s2:List Int}{r:Bool}(hF:aV6 N s1 s2=some r):Holds prog Gw 27 [.sl 1 (s1.map F5),.sl 1 (s2.map F5)] (aa4 r):=by
 refine Q9 L8 mixed func27 (by decide) rfl (H6 rfl) ?_;refine C9 (λh1=>?_) (λh1=>?_)
 .have hF:=D6 h1 hF;exact l9 ⟨rfl,congrArg (Option.map aa4) hF⟩
 .have hF:=D5 h1 hF;refine dX (λp:Nat×Int=>[(0,.c (.sl 1 (s1.map F5))),(1,.c (.sl 1 (s2.map F5))),(12,.c (I ((s1.map F5).length:Int))),(13,.c (I p.2))]) (λ_=>[]) (λp=>TJ s1 s2 p.1 p.2=some r) (λp=>p.1) (N,0) hF ⟨rfl,rfl,rfl,rfl,trivial⟩ trivial ?_;rintro⟨fu1,v2⟩ hF;cases fu1 with
  |zero=>exact nomatch hF
  |succ fu1=>
   refine J9 ?_;refine C9 (λh3=>?_) (λh3=>?_)
   .have hF:=D6 h3 hF;refine J9 ?_;refine D7 hF λx4 h5 hF=>?_;refine⟨V9 h5,.inl rfl,_,Y0 F5 h5,?_⟩;refine D7 hF λx6 h7 hF=>?_;refine⟨V9 h7,.inl rfl,_,Y0 F5 h7,?_⟩;refine C9 (by kernel_rfl) ?_;refine C9 (λh8=>?_) (λh8=>?_)
    .have hF:=D6 h8 hF;exact l9 ⟨rfl,congrArg (Option.map aa4) hF⟩
    .have hF:=D5 h8 hF;exact⟨(fu1,(IntKind.i64.wrap (v2+1))),X8 _,hF,⟨rfl,rfl,rfl,rfl,trivial⟩,trivial⟩
   .have hF:=D5 h3 hF;exact l9 ⟨rfl,congrArg (Option.map aa4) hF⟩
abbrev aq8(s1:List Int)(s2:List Int):Option (Bool):=aV6 (s1.length+1) s1 s2
theorem dh5{s1:List Int}{s2:List Int}{r:Bool}(h:aq8 s1 s2=some r):Holds prog Gw 27 [.sl 1 (s1.map F5),.sl 1 (s2.map F5)] (aa4 r):=dh4 h
abbrev b39(y:Bool):CV:=B y
def MC(t:Tree)(parent:Int)(l:List Int):Nat->List Int->Int->Option (Bool)
 |0,_,_=>none
 |fu1+1,FU,v2=>bif decide (v2<((t.Branches.map G8).length:Int))then(Option.bind (ix t.Branches v2) λx4=>bif (x4.Unit.Parent==parent)then(bif decide (FU.length+([x4.Unit.ID]:List Int).length<=4294967296)then MC t parent l fu1 (FU++([x4.Unit.ID]:List Int)) (IntKind.i64.wrap (v2+1))else none)else MC t parent l fu1 FU (IntKind.i64.wrap (v2+1)))else(Option.bind (ar5 l) λy8=>Option.bind (aq8 y8 FU) λjI=>some (jI))
def b40(N:Nat)(t:Tree)(parent:Int)(l:List Int):Option (Bool):=MC t parent l N ([]:List Int) 0
theorem dt2{N:Nat}{t:Tree}{parent:Int}{l:List Int}{r:Bool}(hF:b40 N t parent l=some r):Holds prog Gw 143 [.agg (dO t),I parent,.sl 1 (l.map F5)] (b39 r):=by
 refine Q9 L8 mixed func143 (by decide) rfl (H6 rfl) ?_;refine l9 ?_;refine l9 ?_;refine dX (λp:Nat×List Int×Int=>[(1,.c (I parent)),(2,.c (.sl 1 (l.map F5))),(7,.ap 7 0 1 (p.2.1.map F5)),(11,.c (.sl 6 (t.Branches.map G8))),(12,.c (I ((t.Branches.map G8).length:Int))),(13,.c (I p.2.2))]) (λp:Nat×List Int×Int=>[(7,.tok 3 1)]) (λp=>MC t parent l p.1 p.2.1 p.2.2=some r) (λp=>p.1) (N,([]:List Int),0) hF ⟨rfl,rfl,rfl,rfl,rfl,rfl,trivial⟩ ⟨rfl,trivial⟩ ?_;rintro⟨fu1,FU,v2⟩ hF;cases fu1 with
 |zero=>exact nomatch hF
 |succ fu1=>
  refine J9 ?_;refine C9 (λh3=>?_) (λh3=>?_)
  .have hF:=D6 h3 hF;refine J9 ?_;refine D7 hF λx4 h5 hF=>?_;refine⟨V9 h5,.inl rfl,_,Y0 G8 h5,?_⟩;refine l9 ?_;refine C9 (λh6=>?_) (λh6=>?_)
   .have hF:=D6 h6 hF;refine l9 ?_;refine kU hF λh7 hF=>?_;refine l9 ⟨cP7 rfl,ci6 (f:=F5) h7,(FU++([x4.Unit.ID]:List Int)).map F5,cR5 _ _ _,?_⟩;exact⟨(fu1,(FU++([x4.Unit.ID]:List Int)),(IntKind.i64.wrap (v2+1))),X8 _,hF,⟨rfl,rfl,rfl,rfl,rfl,rfl,trivial⟩,⟨rfl,trivial⟩⟩
   .have hF:=D5 h6 hF;exact⟨(fu1,FU,(IntKind.i64.wrap (v2+1))),X8 _,hF,⟨rfl,rfl,rfl,rfl,rfl,rfl,trivial⟩,⟨rfl,trivial⟩⟩
  .have hF:=D5 h3 hF;refine H9 (H9 ⟨[],0,_,_,_,_,rfl,rfl,lK rfl (H9 ⟨_,rfl,rfl⟩) dj2,rfl,?_⟩);refine D7 hF λy8 h9 hF=>?_;refine H9 (H9 ⟨[(30,1)],0,_,_,_,_,rfl,rfl,lK rfl (H9 ⟨_,rfl,rfl⟩) (di8 h9),rfl,?_⟩);refine D7 hF λjI h11 hF=>?_;refine l9 ⟨_,dh5 h11,rfl,?_⟩;exact l9 ⟨rfl,congrArg (Option.map b39) hF⟩
abbrev au6:=b40 1000
abbrev b41:=@dt2 1000
abbrev aX0(y:Int):CV:=I y
def ab1(t:Tree)(i:Int):Option (Int):=Option.bind (ix t.Branches i) λx1=>Option.bind (au6 t x1.Unit.ID x1.Kids) λy3=>bif (!y3)then some (10)else some (0)
theorem dn5{t:Tree}{i:Int}{r:Int}(hF:ab1 t i=some r):Holds prog Gw 142 [.agg (dO t),I i] (aX0 r):=by
 refine Q9 L8 mixed func142 (by decide) rfl (H6 rfl) ?_;refine l9 ?_;refine D7 hF λx1 h2 hF=>?_;refine⟨V9 h2,.inl rfl,_,Y0 G8 h2,?_⟩;refine l9 ?_;refine D7 hF λy3 h4 hF=>?_;refine l9 ⟨_,b41 h4,rfl,?_⟩;refine C9 (λh5=>?_) (λh5=>?_)
 .have hF:=D6 h5 hF;exact l9 ⟨rfl,congrArg (Option.map aX0) hF⟩
 .have hF:=D5 h5 hF;exact l9 ⟨rfl,congrArg (Option.map aX0) hF⟩
abbrev as9(y:Int):CV:=I y
def ab5(t:Tree):Nat->Int->Int->Int->Int->Str->Str->Option (Int)
 |0,_,_,_,_,_,_=>none
 |fu1+1,YD,u_4,u_5,u_6,u_7,u_8=>bif (u_5 !=0)then(bif decide (YD>((t.Branches.map G8).length:Int))then some (17)else(Option.bind (ab6 t u_5) λdD=>Option.bind (ix t.Branches dD) λvT=>ab5 t fu1 (IntKind.i64.wrap (YD+1)) vT.Unit.ID vT.Unit.Parent vT.Unit.Level vT.Unit.Title vT.Unit.Mark))else(bif decide (YD>12)then some (15)else some (0))
def aX6(N:Nat)(t:Tree)(i:Int):Option (Int):=Option.bind (ix t.Branches i) λx1=>ab5 t N 1 x1.Unit.ID x1.Unit.Parent x1.Unit.Level x1.Unit.Title x1.Unit.Mark
theorem do2{N:Nat}{t:Tree}{i:Int}{r:Int}(hF:aX6 N t i=some r):Holds prog Gw 146 [.agg (dO t),I i] (as9 r):=by
 refine Q9 L8 mixed func146 (by decide) rfl (H6 rfl) ?_;refine l9 ?_;refine D7 hF λx1 h2 hF=>?_;refine⟨V9 h2,.inl rfl,_,Y0 G8 h2,?_⟩;refine l9 ?_;refine dX (λp:Nat×Int×Int×Int×Int×Str×Str=>[(2,.pm 2 0 0),(5,.c (I p.2.1)),(6,.pm 6 0 0)]) (λp:Nat×Int×Int×Int×Int×Str×Str=>[(2,.var [.sl 1 (t.O1.map F5),.sl 6 (t.Branches.map G8)]),(6,.var [I p.2.2.1,I p.2.2.2.1,I p.2.2.2.2.1,S p.2.2.2.2.2.1,S p.2.2.2.2.2.2])]) (λp=>ab5 t p.1 p.2.1 p.2.2.1 p.2.2.2.1 p.2.2.2.2.1 p.2.2.2.2.2.1 p.2.2.2.2.2.2=some r) (λp=>p.1) (N,1,x1.Unit.ID,x1.Unit.Parent,x1.Unit.Level,x1.Unit.Title,x1.Unit.Mark) hF ⟨rfl,rfl,rfl,trivial⟩ ⟨rfl,rfl,trivial⟩ ?_;rintro⟨fu1,YD,u_4,u_5,u_6,u_7,u_8⟩ hF;cases fu1 with
 |zero=>exact nomatch hF
 |succ fu1=>
  refine C9 (λh9=>?_) (λh9=>?_)
  .have hF:=D6 h9 hF;refine J9 ?_;refine C9 (λh10=>?_) (λh10=>?_)
   .have hF:=D6 h10 hF;exact l9 ⟨rfl,congrArg (Option.map as9) hF⟩
   .have hF:=D5 h10 hF;refine D7 hF λdD h12 hF=>?_;refine l9 ⟨_,b38 h12,rfl,?_⟩;refine D7 hF λvT aF hF=>?_;refine⟨V9 aF,.inl rfl,_,Y0 G8 aF,?_⟩;refine C9 (by kernel_rfl) ?_;refine l9 ?_;exact⟨(fu1,(IntKind.i64.wrap (YD+1)),vT.Unit.ID,vT.Unit.Parent,vT.Unit.Level,vT.Unit.Title,vT.Unit.Mark),X8 _,hF,⟨rfl,rfl,rfl,trivial⟩,⟨rfl,rfl,trivial⟩⟩
  .have hF:=D5 h9 hF;refine C9 (λh15=>?_) (λh15=>?_)
   .have hF:=D6 h15 hF;exact l9 ⟨rfl,congrArg (Option.map as9) hF⟩
   .have hF:=D5 h15 hF;exact l9 ⟨rfl,congrArg (Option.map as9) hF⟩
abbrev at1:=aX6 1000
abbrev do3:=@do2 1000
end
section
open Go Go.F6 Proofs.Tryz
def sW(f:FuncId)(t:Tree)(i:Int):Option Int:=bif Nat.beq f 144 then ab4 t i else bif Nat.beq f 145 then ac1 t i else bif Nat.beq f 142 then ab1 t i else bif Nat.beq f 146 then at1 t i else none
theorem bV0{f:FuncId}{t:Tree}{i:Int}{r:Int}(h:sW f t i=some r):Holds prog Gw f [.agg (dO t),I i] (I r):=by
 unfold sW at h;cases h1:Nat.beq f 144 with
 |true=>rw[h1]at h;rw[F8 h1];exact do0 h
 |false=>
  rw[h1]at h;cases h2:Nat.beq f 145 with
  |true=>rw[h2]at h;rw[F8 h2];exact du0 h
  |false=>
   rw[h2]at h;cases h3:Nat.beq f 142 with
   |true=>rw[h3]at h;rw[F8 h3];exact dn5 h
   |false=>
    rw[h3]at h;cases h4:Nat.beq f 146 with
    |true=>rw[h4]at h;rw[F8 h4];exact do3 h
    |false=>rw[h4]at h;exact nomatch h
end
section
open Go Go.F6 Proofs.Tryz
set_option maxRecDepth 10000
set_option maxHeartbeats 400000
abbrev TR(y:Int×Int):CV:=.P7 [I y.1,I y.2]
def EZ(t:Tree)(v2:Int)(x4:FuncId)(XP:Int->Option (Int×Int)):Nat->Int->Option (Int×Int)
 |0,_=>none
 |bH+1,v10=>bif decide (v10<((t.Branches.map G8).length:Int))then(Option.bind (sW x4 t v10) λlW=>bif (lW !=0)then some (v10,lW)else EZ t v2 x4 XP bH (IntKind.i64.wrap (v10+1)))else XP (IntKind.i64.wrap (v2+1))
def FB(t:Tree)(v2:Int)(x4:FuncId)(XP:Int->Option (Int×Int)):Nat->Int->Option (Int×Int)
 |0,_=>none
 |fu3+1,v15=>bif decide (v15<((t.Branches.map G8).length:Int))then(Option.bind (sW x4 t v15) λFZ=>bif (FZ !=0)then some (v15,FZ)else FB t v2 x4 XP fu3 (IntKind.i64.wrap (v15+1)))else XP (IntKind.i64.wrap (v2+1))
def nS(t:Tree)(N:Nat):Nat->Int->Option (Int×Int)
 |0,_=>none
 |fu1+1,v2=>bif decide (v2<((([(144:FuncId),(145:FuncId),(142:FuncId),(146:FuncId)]:List FuncId).map yF).length:Int))then(Option.bind (ix ([(144:FuncId),(145:FuncId),(142:FuncId),(146:FuncId)]:List FuncId) v2) λx4=>bif (v2==3)then(Option.bind (au6 t 0 t.O1) λy7=>bif (!y7)then some ((-1),10)else EZ t v2 x4 (λLJ=>nS t N fu1 LJ) N 0)else FB t v2 x4 (λLJ=>nS t N fu1 LJ) N 0)else some ((-1),0)
def aX1(N:Nat)(t:Tree):Option (Int×Int):=bif decide (((t.Branches.map G8).length:Int)>256)then some ((-1),8)else nS t N N 0
theorem dn6{N:Nat}{t:Tree}{r:Int×Int}(hF:aX1 N t=some r):Holds prog Gw 86 [.agg (dO t)] (TR r):=by
 refine Q9 L8 mixed func86 (by decide) rfl (H6 rfl) ?_;refine l9 ?_;refine C9 (λh1=>?_) (λh1=>?_)
 .have hF:=D6 h1 hF;exact l9 ⟨rfl,congrArg (Option.map TR) hF⟩
 .have hF:=D5 h1 hF;refine l9 ?_;refine dX (λp:Nat×Int=>[(1,.pm 1 0 0),(14,.ap 14 0 1 (([(144:FuncId),(145:FuncId),(142:FuncId),(146:FuncId)]:List FuncId).map yF)),(15,.c (I ((([(144:FuncId),(145:FuncId),(142:FuncId),(146:FuncId)]:List FuncId).map yF).length:Int))),(16,.c (I p.2))]) (λp:Nat×Int=>[(1,.var [.sl 1 (t.O1.map F5),.sl 6 (t.Branches.map G8)]),(14,.tok 125 1)]) (λp=>nS t N p.1 p.2=some r) (λp=>p.1) (N,0) hF ⟨rfl,rfl,rfl,rfl,trivial⟩ ⟨rfl,rfl,trivial⟩ ?_;rintro⟨fu1,v2⟩ hF;cases fu1 with
  |zero=>exact nomatch hF
  |succ fu1=>
   refine J9 ?_;refine C9 (λh3=>?_) (λh3=>?_)
   .have hF:=D6 h3 hF;refine J9 ?_;refine D7 hF λx4 h5 hF=>?_;refine⟨V9 h5,.inl rfl,_,Y0 yF h5,?_⟩;refine J9 ?_;refine C9 (λh6=>?_) (λh6=>?_)
    .have hF:=D6 h6 hF;refine D7 hF λy7 h8 hF=>?_;refine l9 ⟨_,b41 h8,rfl,?_⟩;refine C9 (λh9=>?_) (λh9=>?_)
     .have hF:=D6 h9 hF;exact l9 ⟨rfl,congrArg (Option.map TR) hF⟩
     .have hF:=D5 h9 hF;refine dX (λp:Nat×Int=>[(1,.pm 1 0 0),(6,.c (.fn x4 [])),(14,.ap 14 0 1 (([(144:FuncId),(145:FuncId),(142:FuncId),(146:FuncId)]:List FuncId).map yF)),(15,.c (I ((([(144:FuncId),(145:FuncId),(142:FuncId),(146:FuncId)]:List FuncId).map yF).length:Int))),(16,.c (I v2)),(24,.c (.agg [.sl 1 (t.O1.map F5),.sl 6 (t.Branches.map G8)])),(25,.pm 1 0 0),(26,.c (.sl 1 (t.O1.map F5))),(27,.c (B y7)),(28,.c (B (!y7))),(32,.c (I ((t.Branches.map G8).length:Int))),(33,.c (I p.2))]) (λp:Nat×Int=>[(1,.var [.sl 1 (t.O1.map F5),.sl 6 (t.Branches.map G8)]),(14,.tok 125 1)]) (λp=>EZ t v2 x4 (λLJ=>nS t N fu1 LJ) p.1 p.2=some r) (λp=>p.1) (N,0) hF ⟨rfl,rfl,rfl,rfl,rfl,rfl,rfl,rfl,rfl,rfl,rfl,rfl,trivial⟩ ⟨rfl,rfl,trivial⟩ ?_;rintro⟨bH,v10⟩ hF;cases bH with
      |zero=>exact nomatch hF
      |succ bH=>
       refine J9 ?_;refine C9 (λh11=>?_) (λh11=>?_)
       .have hF:=D6 h11 hF;refine J9 ?_;refine D7 hF λlW h13 hF=>?_;refine l9 ⟨_,bV0 h13,rfl,?_⟩;refine C9 (λaF=>?_) (λaF=>?_)
        .have hF:=D6 aF hF;exact l9 ⟨rfl,congrArg (Option.map TR) hF⟩
        .have hF:=D5 aF hF;exact⟨(bH,(IntKind.i64.wrap (v10+1))),X8 _,hF,⟨rfl,rfl,rfl,rfl,rfl,rfl,rfl,rfl,rfl,rfl,rfl,rfl,trivial⟩,⟨rfl,rfl,trivial⟩⟩
       .have hF:=D5 h11 hF;exact⟨(fu1,(IntKind.i64.wrap (v2+1))),X8 _,hF,⟨rfl,rfl,rfl,rfl,trivial⟩,⟨rfl,rfl,trivial⟩⟩
    .have hF:=D5 h6 hF;refine dX (λp:Nat×Int=>[(1,.pm 1 0 0),(6,.c (.fn x4 [])),(14,.ap 14 0 1 (([(144:FuncId),(145:FuncId),(142:FuncId),(146:FuncId)]:List FuncId).map yF)),(15,.c (I ((([(144:FuncId),(145:FuncId),(142:FuncId),(146:FuncId)]:List FuncId).map yF).length:Int))),(16,.c (I v2)),(32,.c (I ((t.Branches.map G8).length:Int))),(33,.c (I p.2))]) (λp:Nat×Int=>[(1,.var [.sl 1 (t.O1.map F5),.sl 6 (t.Branches.map G8)]),(14,.tok 125 1)]) (λp=>FB t v2 x4 (λLJ=>nS t N fu1 LJ) p.1 p.2=some r) (λp=>p.1) (N,0) hF ⟨rfl,rfl,rfl,rfl,rfl,rfl,rfl,trivial⟩ ⟨rfl,rfl,trivial⟩ ?_;rintro⟨fu3,v15⟩ hF;cases fu3 with
     |zero=>exact nomatch hF
     |succ fu3=>
      refine J9 ?_;refine C9 (λh16=>?_) (λh16=>?_)
      .have hF:=D6 h16 hF;refine J9 ?_;refine D7 hF λFZ h18 hF=>?_;refine l9 ⟨_,bV0 h18,rfl,?_⟩;refine C9 (λh19=>?_) (λh19=>?_)
       .have hF:=D6 h19 hF;exact l9 ⟨rfl,congrArg (Option.map TR) hF⟩
       .have hF:=D5 h19 hF;exact⟨(fu3,(IntKind.i64.wrap (v15+1))),X8 _,hF,⟨rfl,rfl,rfl,rfl,rfl,rfl,rfl,trivial⟩,⟨rfl,rfl,trivial⟩⟩
      .have hF:=D5 h16 hF;exact⟨(fu1,(IntKind.i64.wrap (v2+1))),X8 _,hF,⟨rfl,rfl,rfl,rfl,trivial⟩,⟨rfl,rfl,trivial⟩⟩
   .have hF:=D5 h3 hF;exact l9 ⟨rfl,congrArg (Option.map TR) hF⟩
abbrev FC:=aX1 1000
abbrev aX2:=@dn6 1000
abbrev b54(y:Bool):CV:=B y
def MI(t:Tree):Option (Bool):=Option.bind (FC t) λy1=>some ((y1.2==0))
theorem du2{t:Tree}{r:Bool}(hF:MI t=some r):Holds prog Gw 188 [.agg (dO t)] (b54 r):=by
 refine Q9 L8 mixed func188 (by decide) rfl (H6 rfl) ?_;refine l9 ?_;refine D7 hF λy1 h2 hF=>?_;refine l9 ⟨_,aX2 h2,rfl,?_⟩;exact l9 ⟨rfl,congrArg (Option.map b54) hF⟩
abbrev aX3(y:Bool):CV:=B y
def ab2(b:Branch)(c0:Str):Option (Bool):=bif (!(c0==([]:Str)))then some ((b.Unit.Mark==c0))else some (false)
theorem dn7{b:Branch}{c0:Str}{r:Bool}(hF:ab2 b c0=some r):Holds prog Gw 225 [.agg (G8 b),.pi [S c0] 0] (aX3 r):=by
 refine Q9 L8 mixed func225 (by decide) rfl (H6 rfl) ?_;refine l9 ?_;refine J9 ?_;refine C9 (λh1=>?_) (λh1=>?_)
 .have hF:=D6 h1 hF;exact l9 ⟨rfl,congrArg (Option.map aX3) hF⟩
 .have hF:=D5 h1 hF;exact l9 ⟨rfl,congrArg (Option.map aX3) hF⟩
abbrev aX4(y:Int×Bool):CV:=.P7 [I y.1,B y.2]
def ab3(t:Tree)(mark:Str):Option (Int×Bool):=Option.bind (aa5 t.Branches (λz0=>ab2 z0 mark)) λy1=>bif decide (y1<0)then some (0,false)else(Option.bind (ix t.Branches y1) λx4=>some (x4.Unit.ID,true))
theorem dn8{t:Tree}{mark:Str}{r:Int×Bool}(hF:ab3 t mark=some r):Holds prog Gw 132 [.agg (dO t),S mark] (aX4 r):=by
 refine Q9 L8 mixed func132 (by decide) rfl (H6 rfl) ?_;refine l9 ?_;refine l9 ?_;refine D7 hF λy1 h2 hF=>?_;refine l9 ⟨_,aV8 (λ_ _ h=>dn7 h) h2,rfl,?_⟩;refine C9 (λh3=>?_) (λh3=>?_)
 .have hF:=D6 h3 hF;exact l9 ⟨rfl,congrArg (Option.map aX4) hF⟩
 .have hF:=D5 h3 hF;refine D7 hF λx4 h5 hF=>?_;refine⟨V9 h5,.inl rfl,_,Y0 G8 h5,?_⟩;exact l9 ⟨rfl,congrArg (Option.map aX4) hF⟩
abbrev bj3(y:Bool):CV:=B y
def ah4(x:Int):Option (Bool):=some ((x !=x))
theorem bj4{x:Int}{r:Bool}(hF:ah4 x=some r):Holds prog Gw 113 [I x] (bj3 r):=by
 refine Q9 L8 mixed func113 (by decide) rfl (H6 rfl) ?_;exact l9 ⟨rfl,congrArg (Option.map bj3) hF⟩
abbrev IJ(y:Int):CV:=I y
def wF(x:Int)(y:Int):Option (Int):=Option.bind (ah4 x) λy1=>Option.bind (ah4 y) λy3=>bif y1 then(bif y3 then some (0)else some ((-1)))else(bif y3 then some (1)else(bif decide (x<y)then some ((-1))else(bif decide (x>y)then some (1)else some (0))))
theorem aA9{x:Int}{y:Int}{r:Int}(hF:wF x y=some r):Holds prog Gw 63 [I x,I y] (IJ r):=by
 refine Q9 L8 mixed func63 (by decide) rfl (H6 rfl) ?_;refine D7 hF λy1 h2 hF=>?_;refine l9 ⟨_,bj4 h2,rfl,?_⟩;refine D7 hF λy3 h4 hF=>?_;refine l9 ⟨_,bj4 h4,rfl,?_⟩;refine C9 (λh5=>?_) (λh5=>?_)
 .have hF:=D6 h5 hF;refine C9 (λh6=>?_) (λh6=>?_)
  .have hF:=D6 h6 hF;exact l9 ⟨rfl,congrArg (Option.map IJ) hF⟩
  .have hF:=D5 h6 hF;exact l9 ⟨rfl,congrArg (Option.map IJ) hF⟩
 .have hF:=D5 h5 hF;refine C9 (λh7=>?_) (λh7=>?_)
  .have hF:=D6 h7 hF;exact l9 ⟨rfl,congrArg (Option.map IJ) hF⟩
  .have hF:=D5 h7 hF;refine C9 (λh8=>?_) (λh8=>?_)
   .have hF:=D6 h8 hF;exact l9 ⟨rfl,congrArg (Option.map IJ) hF⟩
   .have hF:=D5 h8 hF;refine C9 (λh9=>?_) (λh9=>?_)
    .have hF:=D6 h9 hF;exact l9 ⟨rfl,congrArg (Option.map IJ) hF⟩
    .have hF:=D5 h9 hF;exact l9 ⟨rfl,congrArg (Option.map IJ) hF⟩
abbrev bU4(y:Int):CV:=I y
def as7(b:Branch)(id:Int):Option (Int):=Option.bind (wF b.Unit.ID id) λy1=>some (y1)
theorem do1{b:Branch}{id:Int}{r:Int}(hF:as7 b id=some r):Holds prog Gw 275 [.agg (G8 b),I id] (bU4 r):=by
 refine Q9 L8 mixed func275 (by decide) rfl (H6 rfl) ?_;refine l9 ?_;refine D7 hF λy1 h2 hF=>?_;refine l9 ⟨_,aA9 h2,rfl,?_⟩;exact l9 ⟨rfl,congrArg (Option.map bU4) hF⟩
abbrev aW0(y:Int×Bool):CV:=.P7 [I y.1,B y.2]
def zZ(x:List Branch)(target:Int)(cmp:Branch->Int->Option Int):Nat->Int->Int->Option (Int×Bool)
 |0,_,_=>none
 |fu1+1,i1,j2=>bif decide (i1<j2)then(Option.bind (ix x (IntKind.i64.wrap (Int.fdiv (IntKind.u64.wrap (IntKind.i64.wrap (i1+j2))) 2))) λx4=>Option.bind (cmp x4 target) λy6=>bif decide (y6<0)then zZ x target cmp fu1 (IntKind.i64.wrap ((IntKind.i64.wrap (Int.fdiv (IntKind.u64.wrap (IntKind.i64.wrap (i1+j2))) 2))+1)) j2 else zZ x target cmp fu1 i1 (IntKind.i64.wrap (Int.fdiv (IntKind.u64.wrap (IntKind.i64.wrap (i1+j2))) 2)))else(bif decide (i1<((x.map G8).length:Int))then(Option.bind (ix x i1) λx10=>Option.bind (cmp x10 target) λlW=>some (i1,(lW==0)))else some (i1,false))
def bR7(N:Nat)(x:List Branch)(target:Int)(cmp:Branch->Int->Option Int):Option (Int×Bool):=zZ x target cmp N 0 ((x.map G8).length:Int)
theorem di3{N:Nat}{x:List Branch}{target:Int}{cmp:Branch->Int->Option Int}{r:Int×Bool}{IQ:FuncId}{IL:List CV}(VL:∀z0 z1 y,cmp z0 z1=some y->Holds prog Gw IQ (.agg (G8 z0)::I z1::IL) (I y))(hF:bR7 N x target cmp=some r):Holds prog Gw 129 [.sl 6 (x.map G8),I target,.fn IQ IL] (aW0 r):=by
 refine Q9 L8 mixed func129 (by decide) rfl (H6 rfl) ?_;refine J9 ?_;refine dX (λp:Nat×Int×Int=>[(0,.c (.sl 6 (x.map G8))),(1,.c (I target)),(2,.c (.fn IQ IL)),(8,.c (I ((x.map G8).length:Int))),(9,.c (I p.2.1)),(10,.c (I p.2.2))]) (λ_=>[]) (λp=>zZ x target cmp p.1 p.2.1 p.2.2=some r) (λp=>p.1) (N,0,((x.map G8).length:Int)) hF ⟨rfl,rfl,rfl,rfl,rfl,rfl,trivial⟩ trivial ?_;rintro⟨fu1,i1,j2⟩ hF;cases fu1 with
 |zero=>exact nomatch hF
 |succ fu1=>
  refine C9 (λh3=>?_) (λh3=>?_)
  .have hF:=D6 h3 hF;refine⟨by decide,?_⟩;refine D7 hF λx4 h5 hF=>?_;refine⟨V9 h5,.inl rfl,_,Y0 G8 h5,?_⟩;refine D7 hF λy6 h7 hF=>?_;refine l9 ⟨_,VL _ _ _ h7,rfl,?_⟩;refine C9 (λh8=>?_) (λh8=>?_)
   .have hF:=D6 h8 hF;exact⟨(fu1,(IntKind.i64.wrap ((IntKind.i64.wrap (Int.fdiv (IntKind.u64.wrap (IntKind.i64.wrap (i1+j2))) 2))+1)),j2),X8 _,hF,⟨rfl,rfl,rfl,rfl,rfl,rfl,trivial⟩,trivial⟩
   .have hF:=D5 h8 hF;exact⟨(fu1,i1,(IntKind.i64.wrap (Int.fdiv (IntKind.u64.wrap (IntKind.i64.wrap (i1+j2))) 2))),X8 _,hF,⟨rfl,rfl,rfl,rfl,rfl,rfl,trivial⟩,trivial⟩
  .have hF:=D5 h3 hF;refine J9 ?_;refine C9 (λh9=>?_) (λh9=>?_)
   .have hF:=D6 h9 hF;refine D7 hF λx10 h11 hF=>?_;refine⟨V9 h11,.inl rfl,_,Y0 G8 h11,?_⟩;refine D7 hF λlW h13 hF=>?_;refine l9 ⟨_,VL _ _ _ h13,rfl,?_⟩;exact l9 ⟨rfl,congrArg (Option.map aW0) hF⟩
   .have hF:=D5 h9 hF;exact l9 ⟨rfl,congrArg (Option.map aW0) hF⟩
abbrev aa8:=bR7 1000
abbrev bR8:=@di3 1000
abbrev bU5(y:Int×Bool):CV:=.P7 [I y.1,B y.2]
def TV(t:Tree)(id:Int):Option (Int×Bool):=Option.bind (aa8 t.Branches id (λz0 z1=>as7 z0 z1)) λy1=>some (y1.1,y1.2)
theorem bU7{t:Tree}{id:Int}{r:Int×Bool}(hF:TV t id=some r):Holds prog Gw 189 [.agg (dO t),I id] (bU5 r):=by
 refine Q9 L8 mixed func189 (by decide) rfl (H6 rfl) ?_;refine l9 ?_;refine D7 hF λy1 h2 hF=>?_;refine l9 ⟨_,bR8 (λ_ _ _ h=>do1 h) h2,rfl,?_⟩;exact l9 ⟨rfl,congrArg (Option.map bU5) hF⟩
abbrev au7(y:Int):CV:=I y
def MF(t:Tree)(ids:List Int):Nat->Int->Option (Int)
 |0,_=>none
 |fu1+1,v4=>bif decide (v4<((ids.map F5).length:Int))then(Option.bind (ix ids v4) λx6=>Option.bind (TV t x6) λy8=>bif (!y8.2)then some (7)else MF t ids fu1 (IntKind.i64.wrap (v4+1)))else some (0)
def b44(N:Nat)(t:Tree)(ids:List Int):Option (Int):=Option.bind (MI t) λy1=>bif (!y1)then some (1)else MF t ids N 0
theorem dt4{N:Nat}{t:Tree}{ids:List Int}{r:Int}(hF:b44 N t ids=some r):Holds prog Gw 103 [.agg (dO t),.sl 1 (ids.map F5)] (au7 r):=by
 refine Q9 L8 mixed func103 (by decide) rfl (H6 rfl) ?_;refine l9 ?_;refine D7 hF λy1 h2 hF=>?_;refine l9 ⟨_,du2 h2,rfl,?_⟩;refine C9 (λh3=>?_) (λh3=>?_)
 .have hF:=D6 h3 hF;exact l9 ⟨rfl,congrArg (Option.map au7) hF⟩
 .have hF:=D5 h3 hF;refine dX (λp:Nat×Int=>[(2,.pm 2 0 0),(12,.c (.sl 1 (ids.map F5))),(13,.c (I ((ids.map F5).length:Int))),(14,.c (I p.2))]) (λp:Nat×Int=>[(2,.var [.sl 1 (t.O1.map F5),.sl 6 (t.Branches.map G8)])]) (λp=>MF t ids p.1 p.2=some r) (λp=>p.1) (N,0) hF ⟨rfl,rfl,rfl,rfl,trivial⟩ ⟨rfl,trivial⟩ ?_;rintro⟨fu1,v4⟩ hF;cases fu1 with
  |zero=>exact nomatch hF
  |succ fu1=>
   refine J9 ?_;refine C9 (λh5=>?_) (λh5=>?_)
   .have hF:=D6 h5 hF;refine J9 ?_;refine D7 hF λx6 h7 hF=>?_;refine⟨V9 h7,.inl rfl,_,Y0 F5 h7,?_⟩;refine D7 hF λy8 h9 hF=>?_;refine l9 ⟨_,bU7 h9,rfl,?_⟩;refine C9 (λh10=>?_) (λh10=>?_)
    .have hF:=D6 h10 hF;exact l9 ⟨rfl,congrArg (Option.map au7) hF⟩
    .have hF:=D5 h10 hF;exact⟨(fu1,(IntKind.i64.wrap (v4+1))),X8 _,hF,⟨rfl,rfl,rfl,rfl,trivial⟩,⟨rfl,trivial⟩⟩
   .have hF:=D5 h5 hF;exact l9 ⟨rfl,congrArg (Option.map au7) hF⟩
abbrev aY0:=b44 1000
abbrev b45:=@dt4 1000
abbrev aX9(y:List Int):CV:=.sl 1 (y.map F5)
def nU(t:Tree)(id:Int):Option (List Int):=bif (id==0)then some (t.O1)else(Option.bind (TV t id) λy2=>Option.bind (ix t.Branches y2.1) λx4=>some (x4.Kids))
theorem dt3{t:Tree}{id:Int}{r:List Int}(hF:nU t id=some r):Holds prog Gw 107 [.agg (dO t),I id] (aX9 r):=by
 refine Q9 L8 mixed func107 (by decide) rfl (H6 rfl) ?_;refine l9 ?_;refine l9 ?_;refine C9 (λh1=>?_) (λh1=>?_)
 .have hF:=D6 h1 hF;exact l9 ⟨rfl,congrArg (Option.map aX9) hF⟩
 .have hF:=D5 h1 hF;refine D7 hF λy2 h3 hF=>?_;refine l9 ⟨_,bU7 h3,rfl,?_⟩;refine D7 hF λx4 h5 hF=>?_;refine⟨V9 h5,.inl rfl,_,Y0 G8 h5,?_⟩;exact l9 ⟨rfl,congrArg (Option.map aX9) hF⟩
abbrev aY4(y:Int):CV:=I y
def UE(t:Tree)(id:Int):Option (Int):=bif (id==0)then(Option.bind (aY0 t ([]:List Int)) λy2=>some (y2))else(Option.bind (aY0 t ([id]:List Int)) λy4=>some (y4))
theorem b52{t:Tree}{id:Int}{r:Int}(hF:UE t id=some r):Holds prog Gw 53 [.agg (dO t),I id] (aY4 r):=by
 refine Q9 L8 mixed func53 (by decide) rfl (H6 rfl) ?_;refine l9 ?_;refine C9 (λh1=>?_) (λh1=>?_)
 .have hF:=D6 h1 hF;refine D7 hF λy2 h3 hF=>?_;refine l9 ⟨_,holds_nil (b45 h3) ⟨.inl rfl,.inr ⟨_,rfl,rfl⟩,trivial⟩,rfl,?_⟩;exact l9 ⟨rfl,congrArg (Option.map aY4) hF⟩
 .have hF:=D5 h1 hF;refine l9 ?_;refine D7 hF λy4 h5 hF=>?_;refine l9 ⟨_,b45 h5,rfl,?_⟩;exact l9 ⟨rfl,congrArg (Option.map aY4) hF⟩
abbrev ar4(y:Int):CV:=I y
def LZ(s:List Int)(v:Int):Nat->Int->Option (Int)
 |0,_=>none
 |fu1+1,v1=>bif decide (v1<((s.map F5).length:Int))then(Option.bind (ix s v1) λx3=>bif (v==x3)then some (v1)else LZ s v fu1 (IntKind.i64.wrap (v1+1)))else some ((-1))
def bR3(N:Nat)(s:List Int)(v:Int):Option (Int):=LZ s v N 0
theorem di0{N:Nat}{s:List Int}{v:Int}{r:Int}(hF:bR3 N s v=some r):Holds prog Gw 31 [.sl 1 (s.map F5),I v] (ar4 r):=by
 refine Q9 L8 mixed func31 (by decide) rfl (H6 rfl) ?_;refine dX (λp:Nat×Int=>[(0,.c (.sl 1 (s.map F5))),(1,.c (I v)),(7,.c (I ((s.map F5).length:Int))),(8,.c (I p.2))]) (λ_=>[]) (λp=>LZ s v p.1 p.2=some r) (λp=>p.1) (N,0) hF ⟨rfl,rfl,rfl,rfl,trivial⟩ trivial ?_;rintro⟨fu1,v1⟩ hF;cases fu1 with
 |zero=>exact nomatch hF
 |succ fu1=>
  refine J9 ?_;refine C9 (λh2=>?_) (λh2=>?_)
  .have hF:=D6 h2 hF;refine J9 ?_;refine D7 hF λx3 h4 hF=>?_;refine⟨V9 h4,.inl rfl,_,Y0 F5 h4,?_⟩;refine C9 (λh5=>?_) (λh5=>?_)
   .have hF:=D6 h5 hF;exact l9 ⟨rfl,congrArg (Option.map ar4) hF⟩
   .have hF:=D5 h5 hF;exact⟨(fu1,(IntKind.i64.wrap (v1+1))),X8 _,hF,⟨rfl,rfl,rfl,rfl,trivial⟩,trivial⟩
  .have hF:=D5 h2 hF;exact l9 ⟨rfl,congrArg (Option.map ar4) hF⟩
abbrev aa7(s:List Int)(v:Int):Option (Int):=bR3 (s.length+1) s v
theorem bR5{s:List Int}{v:Int}{r:Int}(h:aa7 s v=some r):Holds prog Gw 31 [.sl 1 (s.map F5),I v] (ar4 r):=di0 h
abbrev bQ2(y:Bool):CV:=B y
def sU(s:List Int)(v:Int):Option (Bool):=Option.bind (aa7 s v) λy1=>some (decide (y1>=0))
theorem aq7{s:List Int}{v:Int}{r:Bool}(hF:sU s v=some r):Holds prog Gw 10 [.sl 1 (s.map F5),I v] (bQ2 r):=by
 refine Q9 L8 mixed func10 (by decide) rfl (H6 rfl) ?_;refine D7 hF λy1 h2 hF=>?_;refine l9 ⟨_,bR5 h2,rfl,?_⟩;exact l9 ⟨rfl,congrArg (Option.map bQ2) hF⟩
abbrev aR8(y:Bool):CV:=B y
def SH(n:Int)(low:Int)(high:Int):Option (Bool):=bif decide (low<=n)then some (decide (n<=high))else some (false)
theorem ao6{n:Int}{low:Int}{high:Int}{r:Bool}(hF:SH n low high=some r):Holds prog Gw 57 [I n,I low,I high] (aR8 r):=by
 refine Q9 L8 mixed func57 (by decide) rfl (H6 rfl) ?_;refine J9 ?_;refine C9 (λh1=>?_) (λh1=>?_)
 .have hF:=D6 h1 hF;exact l9 ⟨rfl,congrArg (Option.map aR8) hF⟩
 .have hF:=D5 h1 hF;exact l9 ⟨rfl,congrArg (Option.map aR8) hF⟩
abbrev an6(y:Bool):CV:=B y
def LC(c:Came)(bI7:Bool):Option (Bool):=Option.bind (SH c.Unit 1 1073741824) λjI=>bif jI then(Option.bind (SH c.Origin.aK 0 1073741824) λy13=>bif y13 then some (bI7)else some (false))else some (false)
def YO(c:Came):Option (Bool):=Option.bind (SH c.Origin.U3 1 1073741824) λy1=>bif y1 then(Option.bind (SH c.Origin.Number 1 9999) λy4=>bif y4 then LC c true else(bif (c.Origin.U3==0)then LC c (c.Origin.Number==0)else LC c false))else(bif (c.Origin.U3==0)then LC c (c.Origin.Number==0)else LC c false)
theorem bH6{c:Came}{r:Bool}(hF:YO c=some r):Holds prog Gw 191 [.agg (J7 c)] (an6 r):=by
 refine Q9 L8 mixed func191 (by decide) rfl (H6 rfl) ?_;refine l9 ?_;refine l9 ?_;refine KD (λp:Bool=>[(1,.pm 1 0 0),(3,.pm 3 0 0),(4,.c (B p))]) (λp:Bool=>[(1,.var [I c.Unit,I c.Origin.aK,I c.Origin.U3,I c.Origin.Number]),(3,.var [I c.Origin.aK,I c.Origin.U3,I c.Origin.Number])]) (λp=>LC c p=some r) ?_ ?_
 .intro bI7 hF;refine J9 ?_;refine D7 hF λjI h11 hF=>?_;refine l9 ⟨_,ao6 h11,rfl,?_⟩;refine C9 (λh12=>?_) (λh12=>?_)
  .have hF:=D6 h12 hF;refine D7 hF λy13 aF hF=>?_;refine l9 ⟨_,ao6 aF,rfl,?_⟩;refine C9 (λh15=>?_) (λh15=>?_)
   .have hF:=D6 h15 hF;exact l9 ⟨rfl,congrArg (Option.map an6) hF⟩
   .have hF:=D5 h15 hF;exact l9 ⟨rfl,congrArg (Option.map an6) hF⟩
  .have hF:=D5 h12 hF;exact l9 ⟨rfl,congrArg (Option.map an6) hF⟩
 .show bU _ _ _ _ _ _;refine D7 hF λy1 h2 hF=>?_;refine l9 ⟨_,ao6 h2,rfl,?_⟩;refine C9 (λh3=>?_) (λh3=>?_)
  .have hF:=D6 h3 hF;refine D7 hF λy4 h5 hF=>?_;refine l9 ⟨_,ao6 h5,rfl,?_⟩;refine C9 (λh6=>?_) (λh6=>?_)
   .have hF:=D6 h6 hF;exact⟨true,hF,⟨rfl,rfl,rfl,trivial⟩,⟨rfl,rfl,trivial⟩⟩
   .have hF:=D5 h6 hF;refine C9 (λh7=>?_) (λh7=>?_)
    .have hF:=D6 h7 hF;exact⟨(c.Origin.Number==0),hF,⟨rfl,rfl,rfl,trivial⟩,⟨rfl,rfl,trivial⟩⟩
    .have hF:=D5 h7 hF;exact⟨false,hF,⟨rfl,rfl,rfl,trivial⟩,⟨rfl,rfl,trivial⟩⟩
  .have hF:=D5 h3 hF;refine C9 (λh8=>?_) (λh8=>?_)
   .have hF:=D6 h8 hF;exact⟨(c.Origin.Number==0),hF,⟨rfl,rfl,rfl,trivial⟩,⟨rfl,rfl,trivial⟩⟩
   .have hF:=D5 h8 hF;exact⟨false,hF,⟨rfl,rfl,rfl,trivial⟩,⟨rfl,rfl,trivial⟩⟩
abbrev ar0(y:Int):CV:=I y
def LX(s:List Came)(f:Came->Option Bool):Nat->Int->Option (Int)
 |0,_=>none
 |fu1+1,v1=>bif decide (v1<((s.map J7).length:Int))then(Option.bind (ix s v1) λx3=>Option.bind (f x3) λy5=>bif y5 then some (v1)else LX s f fu1 (IntKind.i64.wrap (v1+1)))else some ((-1))
def bQ5(N:Nat)(s:List Came)(f:Came->Option Bool):Option (Int):=LX s f N 0
theorem dh8{N:Nat}{s:List Came}{f:Came->Option Bool}{r:Int}{fF:FuncId}{fE:List CV}(nI:∀z0 y,f z0=some y->Holds prog Gw fF (.agg (J7 z0)::fE) (B y))(hF:bQ5 N s f=some r):Holds prog Gw 111 [.sl 4 (s.map J7),.fn fF fE] (ar0 r):=by
 refine Q9 L8 mixed func111 (by decide) rfl (H6 rfl) ?_;refine dX (λp:Nat×Int=>[(0,.c (.sl 4 (s.map J7))),(1,.c (.fn fF fE)),(7,.c (I ((s.map J7).length:Int))),(8,.c (I p.2))]) (λ_=>[]) (λp=>LX s f p.1 p.2=some r) (λp=>p.1) (N,0) hF ⟨rfl,rfl,rfl,rfl,trivial⟩ trivial ?_;rintro⟨fu1,v1⟩ hF;cases fu1 with
 |zero=>exact nomatch hF
 |succ fu1=>
  refine J9 ?_;refine C9 (λh2=>?_) (λh2=>?_)
  .have hF:=D6 h2 hF;refine J9 ?_;refine D7 hF λx3 h4 hF=>?_;refine⟨V9 h4,.inl rfl,_,Y0 J7 h4,?_⟩;refine D7 hF λy5 h6 hF=>?_;refine l9 ⟨_,nI _ _ h6,rfl,?_⟩;refine C9 (λh7=>?_) (λh7=>?_)
   .have hF:=D6 h7 hF;exact l9 ⟨rfl,congrArg (Option.map ar0) hF⟩
   .have hF:=D5 h7 hF;exact⟨(fu1,(IntKind.i64.wrap (v1+1))),X8 _,hF,⟨rfl,rfl,rfl,rfl,trivial⟩,trivial⟩
  .have hF:=D5 h2 hF;exact l9 ⟨rfl,congrArg (Option.map ar0) hF⟩
abbrev ar1(s:List Came)(f:Came->Option Bool):Option (Int):=bQ5 (s.length+1) s f
theorem bQ7{s:List Came}{f:Came->Option Bool}{r:Int}{fF:FuncId}{fE:List CV}(nI:∀z0 y,f z0=some y->Holds prog Gw fF (.agg (J7 z0)::fE) (B y))(h:ar1 s f=some r):Holds prog Gw 111 [.sl 4 (s.map J7),.fn fF fE] (ar0 r):=dh8 nI h
abbrev bP9(y:Bool):CV:=B y
def aa3(s:List Came)(f:Came->Option Bool):Option (Bool):=Option.bind (ar1 s f) λy1=>some (decide (y1>=0))
theorem bQ1{s:List Came}{f:Came->Option Bool}{r:Bool}{fF:FuncId}{fE:List CV}(nI:∀z0 y,f z0=some y->Holds prog Gw fF (.agg (J7 z0)::fE) (B y))(hF:aa3 s f=some r):Holds prog Gw 257 [.sl 4 (s.map J7),.fn fF fE] (bP9 r):=by
 refine Q9 L8 mixed func257 (by decide) rfl (H6 rfl) ?_;refine D7 hF λy1 h2 hF=>?_;refine l9 ⟨_,bQ7 nI h2,rfl,?_⟩;exact l9 ⟨rfl,congrArg (Option.map bP9) hF⟩
abbrev bH4(y:Bool):CV:=B y
def aQ4(c:Came)(c0:Int):Option (Bool):=some ((c.Unit==c0))
theorem c09{c:Came}{c0:Int}{r:Bool}(hF:aQ4 c c0=some r):Holds prog Gw 236 [.agg (J7 c),.pi [I c0] 0] (bH4 r):=by
 refine Q9 L8 mixed func236 (by decide) rfl (H6 rfl) ?_;refine l9 ?_;exact l9 ⟨rfl,congrArg (Option.map bH4) hF⟩
abbrev aQ5(y:Origin×Bool):CV:=.P7 [.agg (aA1 y.1),B y.2]
def an5(l:List Came)(unit:Int):Option (Origin×Bool):=Option.bind (ar1 l (λz0=>aQ4 z0 unit)) λy1=>bif decide (y1<0)then some ((⟨0,0,0⟩:Origin),false)else(Option.bind (ix l y1) λx4=>some (x4.Origin,true))
theorem c22{l:List Came}{unit:Int}{r:Origin×Bool}(hF:an5 l unit=some r):Holds prog Gw 148 [.sl 4 (l.map J7),I unit] (aQ5 r):=by
 refine Q9 L8 mixed func148 (by decide) rfl (H6 rfl) ?_;refine l9 ?_;refine l9 ?_;refine D7 hF λy1 h2 hF=>?_;refine l9 ⟨_,bQ7 (λ_ _ h=>c09 h) h2,rfl,?_⟩;refine C9 (λh3=>?_) (λh3=>?_)
 .have hF:=D6 h3 hF;refine l9 ?_;exact l9 ⟨rfl,congrArg (Option.map aQ5) hF⟩
 .have hF:=D5 h3 hF;refine D7 hF λx4 h5 hF=>?_;refine⟨V9 h5,.inl rfl,_,Y0 J7 h5,?_⟩;exact l9 ⟨rfl,congrArg (Option.map aQ5) hF⟩
abbrev aT8(y:Bool):CV:=B y
def vF(n:Int)(low:Int)(high:Int):Option (Bool):=bif decide (low<=n)then some (decide (n<=high))else some (false)
theorem zW{n:Int}{low:Int}{high:Int}{r:Bool}(hF:vF n low high=some r):Holds prog Gw 82 [I n,I low,I high] (aT8 r):=by
 refine Q9 L8 mixed func82 (by decide) rfl (H6 rfl) ?_;refine J9 ?_;refine C9 (λh1=>?_) (λh1=>?_)
 .have hF:=D6 h1 hF;exact l9 ⟨rfl,congrArg (Option.map aT8) hF⟩
 .have hF:=D5 h1 hF;exact l9 ⟨rfl,congrArg (Option.map aT8) hF⟩
abbrev LP(y:Bool):CV:=B y
def ap5(s:Str):Option (Bool):=bif decide ((s.length:Int)<1)then some (false)else(bif decide ((s.length:Int)>64)then some (false)else(Option.bind (ix s 0) λb3=>bif ((b3.toNat:Int)==32)then some (false)else(Option.bind (ix s (IntKind.i64.wrap ((s.length:Int)-1))) λb6=>bif ((b6.toNat:Int)==32)then some (false)else(Option.bind (ZT s ([32,32]:Str)) λy9=>bif y9 then some (false)else(Option.bind (vG 32 s) λlW=>some ((!lW)))))))
theorem bM7{s:Str}{r:Bool}(hF:ap5 s=some r):Holds prog Gw 83 [S s] (LP r):=by
 refine Q9 L8 mixed func83 (by decide) rfl (H6 rfl) ?_;refine J9 ?_;refine C9 (λh1=>?_) (λh1=>?_)
 .have hF:=D6 h1 hF;exact l9 ⟨rfl,congrArg (Option.map LP) hF⟩
 .have hF:=D5 h1 hF;refine C9 (λh2=>?_) (λh2=>?_)
  .have hF:=D6 h2 hF;exact l9 ⟨rfl,congrArg (Option.map LP) hF⟩
  .have hF:=D5 h2 hF;refine l9 ?_;refine D7 hF λb3 h4 hF=>?_;refine⟨V9 h4,_,al1 h4,?_⟩;refine C9 (λh5=>?_) (λh5=>?_)
   .have hF:=D6 h5 hF;exact l9 ⟨rfl,congrArg (Option.map LP) hF⟩
   .have hF:=D5 h5 hF;refine l9 ?_;refine D7 hF λb6 h7 hF=>?_;refine⟨V9 h7,_,al1 h7,?_⟩;refine C9 (λh8=>?_) (λh8=>?_)
    .have hF:=D6 h8 hF;exact l9 ⟨rfl,congrArg (Option.map LP) hF⟩
    .have hF:=D5 h8 hF;refine D7 hF λy9 h10 hF=>?_;refine l9 ⟨_,bO8 h10,rfl,?_⟩;refine C9 (λh11=>?_) (λh11=>?_)
     .have hF:=D6 h11 hF;exact l9 ⟨rfl,congrArg (Option.map LP) hF⟩
     .have hF:=D5 h11 hF;refine D7 hF λlW h13 hF=>?_;refine l9 ⟨_,dc3 h13,rfl,?_⟩;exact l9 ⟨rfl,congrArg (Option.map LP) hF⟩
abbrev aT3(y:Bool):CV:=B y
def ap4(s:Str):Option (Bool):=bif decide ((s.length:Int)<=64)then(Option.bind (vG 33 s) λy2=>some ((!y2)))else some (false)
theorem bM6{s:Str}{r:Bool}(hF:ap4 s=some r):Holds prog Gw 84 [S s] (aT3 r):=by
 refine Q9 L8 mixed func84 (by decide) rfl (H6 rfl) ?_;refine J9 ?_;refine C9 (λh1=>?_) (λh1=>?_)
 .have hF:=D6 h1 hF;refine D7 hF λy2 h3 hF=>?_;refine l9 ⟨_,dc2 h3,rfl,?_⟩;exact l9 ⟨rfl,congrArg (Option.map aT3) hF⟩
 .have hF:=D5 h1 hF;exact l9 ⟨rfl,congrArg (Option.map aT3) hF⟩
abbrev LQ(y:Bool):CV:=B y
def ap6(o:Origin):Option (Bool):=Option.bind (vF o.aK 0 1073741824) λy1=>bif y1 then(Option.bind (vF o.U3 1 1073741824) λy4=>bif y4 then(Option.bind (vF o.Number 1 9999) λy7=>bif y7 then some (true)else(bif (o.U3==0)then some ((o.Number==0))else some (false)))else(bif (o.U3==0)then some ((o.Number==0))else some (false)))else some (false)
theorem da6{o:Origin}{r:Bool}(hF:ap6 o=some r):Holds prog Gw 85 [.agg (aA1 o)] (LQ r):=by
 refine Q9 L8 mixed func85 (by decide) rfl (H6 rfl) ?_;refine l9 ?_;refine J9 ?_;refine D7 hF λy1 h2 hF=>?_;refine l9 ⟨_,zW h2,rfl,?_⟩;refine C9 (λh3=>?_) (λh3=>?_)
 .have hF:=D6 h3 hF;refine D7 hF λy4 h5 hF=>?_;refine l9 ⟨_,zW h5,rfl,?_⟩;refine C9 (λh6=>?_) (λh6=>?_)
  .have hF:=D6 h6 hF;refine D7 hF λy7 h8 hF=>?_;refine l9 ⟨_,zW h8,rfl,?_⟩;refine C9 (λh9=>?_) (λh9=>?_)
   .have hF:=D6 h9 hF;exact l9 ⟨rfl,congrArg (Option.map LQ) hF⟩
   .have hF:=D5 h9 hF;refine C9 (λh10=>?_) (λh10=>?_)
    .have hF:=D6 h10 hF;exact l9 ⟨rfl,congrArg (Option.map LQ) hF⟩
    .have hF:=D5 h10 hF;exact l9 ⟨rfl,congrArg (Option.map LQ) hF⟩
  .have hF:=D5 h6 hF;refine C9 (λh11=>?_) (λh11=>?_)
   .have hF:=D6 h11 hF;exact l9 ⟨rfl,congrArg (Option.map LQ) hF⟩
   .have hF:=D5 h11 hF;exact l9 ⟨rfl,congrArg (Option.map LQ) hF⟩
 .have hF:=D5 h3 hF;exact l9 ⟨rfl,congrArg (Option.map LQ) hF⟩
abbrev kF(y:Bool):CV:=B y
def ZJ(o:Opn)(aR4:Bool):Option (Bool):=bif (o.Kind==1)then(bif aR4 then(Option.bind (vF o.Level 1 4) λlD=>bif lD then(Option.bind (ap5 o.Title) λy21=>bif y21 then(Option.bind (ap4 o.Mark) λy24=>bif y24 then(Option.bind (ap6 o.Origin) λy27=>some (y27))else some (false))else some (false))else some (false))else some (false))else(bif (o.Kind==2)then(bif aR4 then some ((o==(⟨o.ID,o.Day,o.Kind,o.Unit,o.Parent,o.Before,0,([]:Str),([]:Str),(⟨0,0,0⟩:Origin)⟩:Opn)))else some (false))else(bif (o.Kind==3)then(Option.bind (ap5 o.Title) λy32=>bif y32 then some ((o==(⟨o.ID,o.Day,o.Kind,o.Unit,0,0,0,o.Title,([]:Str),(⟨0,0,0⟩:Origin)⟩:Opn)))else some (false))else(bif (o.Kind==4)then(Option.bind (ap4 o.Mark) λy36=>bif y36 then some ((o==(⟨o.ID,o.Day,o.Kind,o.Unit,0,0,0,([]:Str),o.Mark,(⟨0,0,0⟩:Origin)⟩:Opn)))else some (false))else(bif (o.Kind==5)then(bif (o.Kind==5)then some ((o==(⟨o.ID,o.Day,o.Kind,o.Unit,0,0,0,([]:Str),([]:Str),(⟨0,0,0⟩:Origin)⟩:Opn)))else some (false))else(bif (o.Kind==6)then some ((o==(⟨o.ID,o.Day,o.Kind,o.Unit,0,0,0,([]:Str),([]:Str),(⟨0,0,0⟩:Origin)⟩:Opn)))else some (false))))))
def ET(o:Opn):Option (Bool):=Option.bind (vF o.ID 1 1073741824) λy1=>bif (!y1)then some (false)else(Option.bind (vF o.Day 0 1048575) λy4=>bif (!y4)then some (false)else(Option.bind (vF o.Unit 1 1073741824) λy7=>bif (!y7)then some (false)else(Option.bind (vF o.Parent 0 1073741824) λjI=>bif jI then(Option.bind (vF o.Before 0 1073741824) λy13=>ZJ o y13)else ZJ o false)))
theorem bM4{o:Opn}{r:Bool}(hF:ET o=some r):Holds prog Gw 37 [.agg (F7 o)] (kF r):=by
 refine Q9 L8 mixed func37 (by decide) rfl (H6 rfl) ?_;refine l9 ?_;refine J9 ?_;refine D7 hF λy1 h2 hF=>?_;refine l9 ⟨_,zW h2,rfl,?_⟩;refine C9 (λh3=>?_) (λh3=>?_)
 .have hF:=D6 h3 hF;exact l9 ⟨rfl,congrArg (Option.map kF) hF⟩
 .have hF:=D5 h3 hF;refine D7 hF λy4 h5 hF=>?_;refine l9 ⟨_,zW h5,rfl,?_⟩;refine C9 (λh6=>?_) (λh6=>?_)
  .have hF:=D6 h6 hF;exact l9 ⟨rfl,congrArg (Option.map kF) hF⟩
  .have hF:=D5 h6 hF;refine D7 hF λy7 h8 hF=>?_;refine l9 ⟨_,zW h8,rfl,?_⟩;refine C9 (λh9=>?_) (λh9=>?_)
   .have hF:=D6 h9 hF;exact l9 ⟨rfl,congrArg (Option.map kF) hF⟩
   .have hF:=D5 h9 hF;refine KD (λp:Bool=>[(1,.pm 1 0 0),(3,.c (B p))]) (λp:Bool=>[(1,.var [I o.ID,I o.Day,I o.Kind,I o.Unit,I o.Parent,I o.Before,I o.Level,S o.Title,S o.Mark,I o.Origin.aK,I o.Origin.U3,I o.Origin.Number])]) (λp=>ZJ o p=some r) ?_ ?_
    .intro aR4 hF;refine l9 ?_;refine l9 ?_;refine C9 (λh16=>?_) (λh16=>?_)
     .have hF:=D6 h16 hF;refine J9 ?_;refine C9 (λh17=>?_) (λh17=>?_)
      .have hF:=D6 h17 hF;refine D7 hF λlD h19 hF=>?_;refine l9 ⟨_,zW h19,rfl,?_⟩;refine C9 (λh20=>?_) (λh20=>?_)
       .have hF:=D6 h20 hF;refine D7 hF λy21 h22 hF=>?_;refine l9 ⟨_,bM7 h22,rfl,?_⟩;refine C9 (λh23=>?_) (λh23=>?_)
        .have hF:=D6 h23 hF;refine D7 hF λy24 mF hF=>?_;refine l9 ⟨_,bM6 mF,rfl,?_⟩;refine C9 (λqI=>?_) (λqI=>?_)
         .have hF:=D6 qI hF;refine D7 hF λy27 h28 hF=>?_;refine l9 ⟨_,da6 h28,rfl,?_⟩;exact l9 ⟨rfl,congrArg (Option.map kF) hF⟩
         .have hF:=D5 qI hF;exact l9 ⟨rfl,congrArg (Option.map kF) hF⟩
        .have hF:=D5 h23 hF;exact l9 ⟨rfl,congrArg (Option.map kF) hF⟩
       .have hF:=D5 h20 hF;exact l9 ⟨rfl,congrArg (Option.map kF) hF⟩
      .have hF:=D5 h17 hF;exact l9 ⟨rfl,congrArg (Option.map kF) hF⟩
     .have hF:=D5 h16 hF;refine C9 (λqJ=>?_) (λqJ=>?_)
      .have hF:=D6 qJ hF;refine C9 (by kernel_rfl) ?_;refine J9 ?_;refine C9 (λh30=>?_) (λh30=>?_)
       .have hF:=D6 h30 hF;refine H9 ⟨[],0,_,_,_,_,rfl,rfl,aa0 o (⟨o.ID,o.Day,o.Kind,o.Unit,o.Parent,o.Before,0,([]:Str),([]:Str),(⟨0,0,0⟩:Origin)⟩:Opn),rfl,?_⟩;exact l9 ⟨rfl,congrArg (Option.map kF) hF⟩
       .have hF:=D5 h30 hF;exact l9 ⟨rfl,congrArg (Option.map kF) hF⟩
      .have hF:=D5 qJ hF;refine C9 (λh31=>?_) (λh31=>?_)
       .have hF:=D6 h31 hF;refine J9 ?_;refine D7 hF λy32 JQ hF=>?_;refine l9 ⟨_,bM7 JQ,rfl,?_⟩;refine C9 (λyS=>?_) (λyS=>?_)
        .have hF:=D6 yS hF;refine H9 ⟨[],0,_,_,_,_,rfl,rfl,aa0 o (⟨o.ID,o.Day,o.Kind,o.Unit,0,0,0,o.Title,([]:Str),(⟨0,0,0⟩:Origin)⟩:Opn),rfl,?_⟩;exact l9 ⟨rfl,congrArg (Option.map kF) hF⟩
        .have hF:=D5 yS hF;exact l9 ⟨rfl,congrArg (Option.map kF) hF⟩
       .have hF:=D5 h31 hF;refine C9 (λh35=>?_) (λh35=>?_)
        .have hF:=D6 h35 hF;refine J9 ?_;refine D7 hF λy36 h37 hF=>?_;refine l9 ⟨_,bM6 h37,rfl,?_⟩;refine C9 (λh38=>?_) (λh38=>?_)
         .have hF:=D6 h38 hF;refine H9 ⟨[],0,_,_,_,_,rfl,rfl,aa0 o (⟨o.ID,o.Day,o.Kind,o.Unit,0,0,0,([]:Str),o.Mark,(⟨0,0,0⟩:Origin)⟩:Opn),rfl,?_⟩;exact l9 ⟨rfl,congrArg (Option.map kF) hF⟩
         .have hF:=D5 h38 hF;exact l9 ⟨rfl,congrArg (Option.map kF) hF⟩
        .have hF:=D5 h35 hF;refine C9 (λyT=>?_) (λyT=>?_)
         .have hF:=D6 yT hF;refine C9 (λWT=>?_) (λWT=>?_)
          .have hF:=D6 WT hF;refine H9 ⟨[],0,_,_,_,_,rfl,rfl,aa0 o (⟨o.ID,o.Day,o.Kind,o.Unit,0,0,0,([]:Str),([]:Str),(⟨0,0,0⟩:Origin)⟩:Opn),rfl,?_⟩;exact l9 ⟨rfl,congrArg (Option.map kF) hF⟩
          .have hF:=D5 WT hF;exact l9 ⟨rfl,congrArg (Option.map kF) hF⟩
         .have hF:=D5 yT hF;refine C9 (λuK=>?_) (λuK=>?_)
          .have hF:=D6 uK hF;refine H9 ⟨[],0,_,_,_,_,rfl,rfl,aa0 o (⟨o.ID,o.Day,o.Kind,o.Unit,0,0,0,([]:Str),([]:Str),(⟨0,0,0⟩:Origin)⟩:Opn),rfl,?_⟩;exact l9 ⟨rfl,congrArg (Option.map kF) hF⟩
          .have hF:=D5 uK hF;exact l9 ⟨rfl,congrArg (Option.map kF) hF⟩
    .show bU _ _ _ _ _ _;refine D7 hF λjI h11 hF=>?_;refine l9 ⟨_,zW h11,rfl,?_⟩;refine C9 (λh12=>?_) (λh12=>?_)
     .have hF:=D6 h12 hF;refine D7 hF λy13 aF hF=>?_;refine l9 ⟨_,zW aF,rfl,?_⟩;exact⟨y13,hF,⟨rfl,rfl,trivial⟩,⟨rfl,trivial⟩⟩
     .have hF:=D5 h12 hF;exact⟨false,hF,⟨rfl,rfl,trivial⟩,⟨rfl,trivial⟩⟩
abbrev aS2(y:Int):CV:=I y
def ES(o:Opn):Option (Int):=Option.bind (ET o) λy1=>bif (!y1)then some (1)else some (0)
theorem c61{o:Opn}{r:Int}(hF:ES o=some r):Holds prog Gw 147 [.agg (F7 o)] (aS2 r):=by
 refine Q9 L8 mixed func147 (by decide) rfl (H6 rfl) ?_;refine l9 ?_;refine D7 hF λy1 h2 hF=>?_;refine l9 ⟨_,bM4 h2,rfl,?_⟩;refine C9 (λh3=>?_) (λh3=>?_)
 .have hF:=D6 h3 hF;exact l9 ⟨rfl,congrArg (Option.map aS2) hF⟩
 .have hF:=D5 h3 hF;exact l9 ⟨rfl,congrArg (Option.map aS2) hF⟩
abbrev bN5(y:Bool):CV:=B y
def bN6(t:Tree):Option (Bool):=Option.bind (FC t) λy1=>some ((y1.2==0))
theorem db3{t:Tree}{r:Bool}(hF:bN6 t=some r):Holds prog Gw 38 [.agg (dO t)] (bN5 r):=by
 refine Q9 L8 mixed func38 (by decide) rfl (H6 rfl) ?_;refine l9 ?_;refine D7 hF λy1 h2 hF=>?_;refine l9 ⟨_,aX2 h2,rfl,?_⟩;exact l9 ⟨rfl,congrArg (Option.map bN5) hF⟩
abbrev am6(y:Bool):CV:=B y
def QN(a:List Int)(b:List Int):Nat->Int->Option (Bool)
 |0,_=>none
 |fu1+1,i2=>bif decide (i2<((a.map F5).length:Int))then(Option.bind (ix a i2) λx4=>Option.bind (ix b i2) λx6=>bif (x4 !=x6)then some (false)else QN a b fu1 (IntKind.i64.wrap (i2+1)))else some (true)
def am7(N:Nat)(a:List Int)(b:List Int):Option (Bool):=bif (((a.map F5).length:Int) !=((b.map F5).length:Int))then some (false)else QN a b N 0
theorem cW0{N:Nat}{a:List Int}{b:List Int}{r:Bool}(hF:am7 N a b=some r):Holds prog Gw 42 [.sl 1 (a.map F5),.sl 1 (b.map F5)] (am6 r):=by
 refine Q9 L8 mixed func42 (by decide) rfl (H6 rfl) ?_;refine C9 (λh1=>?_) (λh1=>?_)
 .have hF:=D6 h1 hF;exact l9 ⟨rfl,congrArg (Option.map am6) hF⟩
 .have hF:=D5 h1 hF;refine dX (λp:Nat×Int=>[(0,.c (.sl 1 (a.map F5))),(1,.c (.sl 1 (b.map F5))),(5,.c (I p.2))]) (λ_=>[]) (λp=>QN a b p.1 p.2=some r) (λp=>p.1) (N,0) hF ⟨rfl,rfl,rfl,trivial⟩ trivial ?_;rintro⟨fu1,i2⟩ hF;cases fu1 with
  |zero=>exact nomatch hF
  |succ fu1=>
   refine C9 (λh3=>?_) (λh3=>?_)
   .have hF:=D6 h3 hF;refine J9 ?_;refine D7 hF λx4 h5 hF=>?_;refine⟨V9 h5,.inl rfl,_,Y0 F5 h5,?_⟩;refine D7 hF λx6 h7 hF=>?_;refine⟨V9 h7,.inl rfl,_,Y0 F5 h7,?_⟩;refine C9 (by kernel_rfl) ?_;refine C9 (λh8=>?_) (λh8=>?_)
    .have hF:=D6 h8 hF;exact l9 ⟨rfl,congrArg (Option.map am6) hF⟩
    .have hF:=D5 h8 hF;exact⟨(fu1,(IntKind.i64.wrap (i2+1))),X8 _,hF,⟨rfl,rfl,rfl,trivial⟩,trivial⟩
   .have hF:=D5 h3 hF;exact l9 ⟨rfl,congrArg (Option.map am6) hF⟩
abbrev aN6:=am7 1000
abbrev bC8:=@cW0 1000
abbrev QI(y:Bool):CV:=B y
def QJ(a:Tree)(b:Tree):Nat->Int->Option (Bool)
 |0,_=>none
 |fu1+1,i5=>bif decide (i5<((a.Branches.map G8).length:Int))then(Option.bind (ix a.Branches i5) λx7=>Option.bind (ix b.Branches i5) λx9=>bif (!(x7.Unit==x9.Unit))then some (false)else(Option.bind (ix a.Branches i5) λx12=>Option.bind (ix b.Branches i5) λx14=>Option.bind (aN6 x12.Kids x14.Kids) λFY=>bif (!FY)then some (false)else QJ a b fu1 (IntKind.i64.wrap (i5+1))))else some (true)
def am0(N:Nat)(a:Tree)(b:Tree):Option (Bool):=Option.bind (aN6 a.O1 b.O1) λy1=>bif (!y1)then some (false)else(bif (((a.Branches.map G8).length:Int) !=((b.Branches.map G8).length:Int))then some (false)else QJ a b N 0)
theorem cU5{N:Nat}{a:Tree}{b:Tree}{r:Bool}(hF:am0 N a b=some r):Holds prog Gw 16 [.agg (dO a),.agg (dO b)] (QI r):=by
 refine Q9 L8 mixed func16 (by decide) rfl (H6 rfl) ?_;refine l9 ?_;refine l9 ?_;refine J9 ?_;refine D7 hF λy1 h2 hF=>?_;refine l9 ⟨_,bC8 h2,rfl,?_⟩;refine C9 (λh3=>?_) (λh3=>?_)
 .have hF:=D6 h3 hF;exact l9 ⟨rfl,congrArg (Option.map QI) hF⟩
 .have hF:=D5 h3 hF;refine C9 (λh4=>?_) (λh4=>?_)
  .have hF:=D6 h4 hF;exact l9 ⟨rfl,congrArg (Option.map QI) hF⟩
  .have hF:=D5 h4 hF;refine dX (λp:Nat×Int=>[(2,.pm 2 0 0),(3,.pm 3 0 0),(5,.c (I p.2))]) (λp:Nat×Int=>[(2,.var [.sl 1 (a.O1.map F5),.sl 6 (a.Branches.map G8)]),(3,.var [.sl 1 (b.O1.map F5),.sl 6 (b.Branches.map G8)])]) (λp=>QJ a b p.1 p.2=some r) (λp=>p.1) (N,0) hF ⟨rfl,rfl,rfl,trivial⟩ ⟨rfl,rfl,trivial⟩ ?_;rintro⟨fu1,i5⟩ hF;cases fu1 with
   |zero=>exact nomatch hF
   |succ fu1=>
    refine C9 (λh6=>?_) (λh6=>?_)
    .have hF:=D6 h6 hF;refine J9 ?_;refine J9 ?_;refine D7 hF λx7 h8 hF=>?_;refine⟨V9 h8,.inl rfl,_,Y0 G8 h8,?_⟩;refine D7 hF λx9 h10 hF=>?_;refine⟨V9 h10,.inl rfl,_,Y0 G8 h10,?_⟩;refine H9 ⟨[],0,_,_,_,_,rfl,rfl,dj5 x7.Unit x9.Unit,rfl,?_⟩;refine C9 (λh11=>?_) (λh11=>?_)
     .have hF:=D6 h11 hF;refine C9 (by kernel_rfl) ?_;exact l9 ⟨rfl,congrArg (Option.map QI) hF⟩
     .have hF:=D5 h11 hF;refine D7 hF λx12 h13 hF=>?_;refine⟨V9 h13,.inl rfl,_,Y0 G8 h13,?_⟩;refine D7 hF λx14 h15 hF=>?_;refine⟨V9 h15,.inl rfl,_,Y0 G8 h15,?_⟩;refine D7 hF λFY h17 hF=>?_;refine l9 ⟨_,bC8 h17,rfl,?_⟩;refine C9 (by kernel_rfl) ?_;refine C9 (λh18=>?_) (λh18=>?_)
      .have hF:=D6 h18 hF;exact l9 ⟨rfl,congrArg (Option.map QI) hF⟩
      .have hF:=D5 h18 hF;exact⟨(fu1,(IntKind.i64.wrap (i5+1))),X8 _,hF,⟨rfl,rfl,rfl,trivial⟩,⟨rfl,rfl,trivial⟩⟩
    .have hF:=D5 h6 hF;exact l9 ⟨rfl,congrArg (Option.map QI) hF⟩
abbrev YI:=am0 1000
abbrev bA7:=@cU5 1000
abbrev aO6(y:Bool):CV:=B y
def bE4(o:Opn):Option (Bool):=bif decide ((o.Title.length:Int)<=100)then some (decide ((o.Mark.length:Int)<=100))else some (false)
theorem cY5{o:Opn}{r:Bool}(hF:bE4 o=some r):Holds prog Gw 28 [.agg (F7 o)] (aO6 r):=by
 refine Q9 L8 mixed func28 (by decide) rfl (H6 rfl) ?_;refine l9 ?_;refine J9 ?_;refine C9 (λh1=>?_) (λh1=>?_)
 .have hF:=D6 h1 hF;exact l9 ⟨rfl,congrArg (Option.map aO6) hF⟩
 .have hF:=D5 h1 hF;exact l9 ⟨rfl,congrArg (Option.map aO6) hF⟩
abbrev ao7(y:Bool):CV:=B y
def SI(l:List Opn):Nat->Int->Option (Bool)
 |0,_=>none
 |fu1+1,i1=>bif decide (i1<((l.map F7).length:Int))then(Option.bind (ix l i1) λx3=>Option.bind (bE4 x3) λy5=>bif (!y5)then some (false)else SI l fu1 (IntKind.i64.wrap (i1+1)))else some (decide (((l.map F7).length:Int)<=24))
def bJ6(N:Nat)(l:List Opn):Option (Bool):=SI l N 0
theorem c50{N:Nat}{l:List Opn}{r:Bool}(hF:bJ6 N l=some r):Holds prog Gw 6 [.sl 12 (l.map F7)] (ao7 r):=by
 refine Q9 L8 mixed func6 (by decide) rfl (H6 rfl) ?_;refine dX (λp:Nat×Int=>[(0,.c (.sl 12 (l.map F7))),(3,.c (I p.2))]) (λ_=>[]) (λp=>SI l p.1 p.2=some r) (λp=>p.1) (N,0) hF ⟨rfl,rfl,trivial⟩ trivial ?_;rintro⟨fu1,i1⟩ hF;cases fu1 with
 |zero=>exact nomatch hF
 |succ fu1=>
  refine C9 (λh2=>?_) (λh2=>?_)
  .have hF:=D6 h2 hF;refine J9 ?_;refine D7 hF λx3 h4 hF=>?_;refine⟨V9 h4,.inl rfl,_,Y0 F7 h4,?_⟩;refine D7 hF λy5 h6 hF=>?_;refine l9 ⟨_,cY5 h6,rfl,?_⟩;refine C9 (λh7=>?_) (λh7=>?_)
   .have hF:=D6 h7 hF;exact l9 ⟨rfl,congrArg (Option.map ao7) hF⟩
   .have hF:=D5 h7 hF;exact⟨(fu1,(IntKind.i64.wrap (i1+1))),X8 _,hF,⟨rfl,rfl,trivial⟩,trivial⟩
  .have hF:=D5 h2 hF;exact l9 ⟨rfl,congrArg (Option.map ao7) hF⟩
abbrev aR9(l:List Opn):Option (Bool):=bJ6 (l.length+1) l
theorem c52{l:List Opn}{r:Bool}(h:aR9 l=some r):Holds prog Gw 6 [.sl 12 (l.map F7)] (ao7 r):=c50 h
abbrev av5(y:Bool):CV:=B y
def xB(o:Opn):Option (Bool):=bif (o.Kind==1)then some ((!(o.Mark==([]:Str))))else(bif (o.Kind==4)then some ((!(o.Mark==([]:Str))))else some (false))
theorem ac3{o:Opn}{r:Bool}(hF:xB o=some r):Holds prog Gw 91 [.agg (F7 o)] (av5 r):=by
 refine Q9 L8 mixed func91 (by decide) rfl (H6 rfl) ?_;refine l9 ?_;refine J9 ?_;refine C9 (λh1=>?_) (λh1=>?_)
 .have hF:=D6 h1 hF;exact l9 ⟨rfl,congrArg (Option.map av5) hF⟩
 .have hF:=D5 h1 hF;refine C9 (λh2=>?_) (λh2=>?_)
  .have hF:=D6 h2 hF;exact l9 ⟨rfl,congrArg (Option.map av5) hF⟩
  .have hF:=D5 h2 hF;exact l9 ⟨rfl,congrArg (Option.map av5) hF⟩
abbrev ar2(y:Int):CV:=I y
def LY(s:List Opn)(f:Opn->Option Bool):Nat->Int->Option (Int)
 |0,_=>none
 |fu1+1,v1=>bif decide (v1<((s.map F7).length:Int))then(Option.bind (ix s v1) λx3=>Option.bind (f x3) λy5=>bif y5 then some (v1)else LY s f fu1 (IntKind.i64.wrap (v1+1)))else some ((-1))
def bQ8(N:Nat)(s:List Opn)(f:Opn->Option Bool):Option (Int):=LY s f N 0
theorem dh9{N:Nat}{s:List Opn}{f:Opn->Option Bool}{r:Int}{fF:FuncId}{fE:List CV}(nI:∀z0 y,f z0=some y->Holds prog Gw fF (.agg (F7 z0)::fE) (B y))(hF:bQ8 N s f=some r):Holds prog Gw 13 [.sl 12 (s.map F7),.fn fF fE] (ar2 r):=by
 refine Q9 L8 mixed func13 (by decide) rfl (H6 rfl) ?_;refine dX (λp:Nat×Int=>[(0,.c (.sl 12 (s.map F7))),(1,.c (.fn fF fE)),(7,.c (I ((s.map F7).length:Int))),(8,.c (I p.2))]) (λ_=>[]) (λp=>LY s f p.1 p.2=some r) (λp=>p.1) (N,0) hF ⟨rfl,rfl,rfl,rfl,trivial⟩ trivial ?_;rintro⟨fu1,v1⟩ hF;cases fu1 with
 |zero=>exact nomatch hF
 |succ fu1=>
  refine J9 ?_;refine C9 (λh2=>?_) (λh2=>?_)
  .have hF:=D6 h2 hF;refine J9 ?_;refine D7 hF λx3 h4 hF=>?_;refine⟨V9 h4,.inl rfl,_,Y0 F7 h4,?_⟩;refine D7 hF λy5 h6 hF=>?_;refine l9 ⟨_,nI _ _ h6,rfl,?_⟩;refine C9 (λh7=>?_) (λh7=>?_)
   .have hF:=D6 h7 hF;exact l9 ⟨rfl,congrArg (Option.map ar2) hF⟩
   .have hF:=D5 h7 hF;exact⟨(fu1,(IntKind.i64.wrap (v1+1))),X8 _,hF,⟨rfl,rfl,rfl,rfl,trivial⟩,trivial⟩
  .have hF:=D5 h2 hF;exact l9 ⟨rfl,congrArg (Option.map ar2) hF⟩
abbrev aa6(s:List Opn)(f:Opn->Option Bool):Option (Int):=bQ8 (s.length+1) s f
theorem bR0{s:List Opn}{f:Opn->Option Bool}{r:Int}{fF:FuncId}{fE:List CV}(nI:∀z0 y,f z0=some y->Holds prog Gw fF (.agg (F7 z0)::fE) (B y))(h:aa6 s f=some r):Holds prog Gw 13 [.sl 12 (s.map F7),.fn fF fE] (ar2 r):=dh9 nI h
end
end Go.Proofs.YtibiibjbmhckgaaGreatDoor
section
namespace Go.Ev
open Go Go.F6
noncomputable section
def oB{α β:Type}(a:Option α)(k:α->Option β):Option β:=Option.rec (motive:=λ_=>Option β) none k a
def bq{α:Type}(c:Bool)(a b:α):α:=Bool.rec (motive:=λ_=>α) b a c
def bg{β:Type}(c:Bool)(k:Option β):Option β:=Bool.rec (motive:=λ_=>Option β) none k c
inductive Pa where
 |e
 |a (p:Pa)
 |b (p:Pa)
 |z
inductive Tr(α:Type) where
 |lf
 |nd (v:Option α) (a b:Tr α)
def KZ(m:Nat):Nat->Pa:=
 Nat.rec (motive:=λ_=>Nat->Pa) (λ_=>.z) (λ_ ih k=>bq (Nat.beq k 0) .e (bq (Nat.beq (Nat.mod k 2) 1) (.a (ih (Nat.div k 2))) (.b (ih (Nat.sub (Nat.div k 2) 1))))) m
def pa(k:Nat):Pa:=KZ 18 k
def Tr.get{α:Type}(t:Tr α):Pa->Option α:=
 Tr.rec (motive:=λ_=>Pa->Option α) (λ_=>none)
   (λv _ _ ia ib p=>Pa.rec (motive:=λ_=>Option α) v (λp _=>ia p) (λp _=>ib p) none p) t
def Tr.set{α:Type}(t:Tr α):Pa->Option α->Tr α:=
 Tr.rec (motive:=λ_=>Pa->Option α->Tr α) (λ_ _=>.lf)
   (λv a b ia ib p x=>Pa.rec (motive:=λ_=>Tr α) (.nd x a b) (λp _=>.nd v (ia p x) b) (λp _=>.nd v a (ib p x)) (.nd v a b) p) t
def full(α:Type)(n:Nat):Tr α:=Nat.rec (motive:=λ_=>Tr α) .lf (λ_ t=>.nd none t t) n
inductive Bt(α:Type) where
 |lf
 |nd (k:Nat) (v:α) (a b:Bt α)
def Bt.get{α:Type}(t:Bt α)(k:Nat):Option α:=
 Bt.rec (motive:=λ_=>Option α) none (λj v _ _ ia ib=>bq (Nat.beq k j) (some v) (bq (Nat.blt k j) ia ib)) t
inductive AV where
 |n (k:IntKind) (n:Nat)
 |neg (k:IntKind) (n:Nat)
 |q (b:Bool)
 |str (l:List Nat)
 |ns
 |np
 |nm
 |nf
 |ni
 |p (b o:Nat)
 |s (b o l:Nat) (c:Option Nat)
 |m (b:Nat)
 |f (f:FuncId) (fs caps:List AV)
 |y (b:Nat)
 |g (cs:List AV)
 |t (cs:List AV)
structure Nd(β:Type) where
 v:Option AV
 a:β
 b:β
def sV{β:Type}(x:AV)(e:Nd β):Nd β:=Nd.rec (motive:=λ_=>Nd β) (λ_ a b=>⟨some x,a,b⟩) e
def sA{β:Type}(f:β->β)(e:Nd β):Nd β:=Nd.rec (motive:=λ_=>Nd β) (λv a b=>⟨v,f a,b⟩) e
def sB{β:Type}(f:β->β)(e:Nd β):Nd β:=Nd.rec (motive:=λ_=>Nd β) (λv a b=>⟨v,a,f b⟩) e
abbrev Env:=Nd (Nd (Nd (Nd (Nd (Nd (Nd (Nd Unit)))))))
def n0{β:Type}(x:β):Nd β:=⟨none,x,x⟩
def zeroE:Env:=n0 (n0 (n0 (n0 (n0 (n0 (n0 (n0 ())))))))
structure Fl(β:Type) where
 g:β->Option AV
 s:AV->β->β
abbrev Fld:=Fl Env
def kV{β:Type}:Fl (Nd β):=⟨λe=>e.v,λx e=>sV x e⟩
def kA{β:Type}(f:Fl β):Fl (Nd β):=⟨λe=>f.g e.a,λx e=>sA (f.s x) e⟩
def kB{β:Type}(f:Fl β):Fl (Nd β):=⟨λe=>f.g e.b,λx e=>sB (f.s x) e⟩
def bo3:List Fld:=
 [kV,kA kV,kB kV,kA (kA kV),kB (kA kV),kA (kB kV),kB (kB kV),kA (kA (kA kV)),kB (kA (kA kV)),kA (kB (kA kV)),kB (kB (kA kV)),kA (kA (kB kV)),kB (kA (kB kV)),kA (kB (kB kV)),kB (kB (kB kV)),kA (kA (kA (kA kV))),kB (kA (kA (kA kV))),kA (kB (kA (kA kV))),kB (kB (kA (kA kV))),kA (kA (kB (kA kV))),kB (kA (kB (kA kV))),kA (kB (kB (kA kV))),kB (kB (kB (kA kV))),kA (kA (kA (kB kV))),kB (kA (kA (kB kV))),kA (kB (kA (kB kV))),kB (kB (kA (kB kV))),kA (kA (kB (kB kV))),kB (kA (kB (kB kV))),kA (kB (kB (kB kV))),kB (kB (kB (kB kV))),kA (kA (kA (kA (kA kV)))),kB (kA (kA (kA (kA kV)))),kA (kB (kA (kA (kA kV)))),kB (kB (kA (kA (kA kV)))),kA (kA (kB (kA (kA kV)))),kB (kA (kB (kA (kA kV)))),kA (kB (kB (kA (kA kV)))),kB (kB (kB (kA (kA kV)))),kA (kA (kA (kB (kA kV)))),kB (kA (kA (kB (kA kV)))),kA (kB (kA (kB (kA kV)))),kB (kB (kA (kB (kA kV)))),kA (kA (kB (kB (kA kV)))),kB (kA (kB (kB (kA kV)))),kA (kB (kB (kB (kA kV)))),kB (kB (kB (kB (kA kV)))),kA (kA (kA (kA (kB kV)))),kB (kA (kA (kA (kB kV)))),kA (kB (kA (kA (kB kV)))),kB (kB (kA (kA (kB kV)))),kA (kA (kB (kA (kB kV)))),kB (kA (kB (kA (kB kV)))),kA (kB (kB (kA (kB kV)))),kB (kB (kB (kA (kB kV)))),kA (kA (kA (kB (kB kV)))),kB (kA (kA (kB (kB kV)))),kA (kB (kA (kB (kB kV)))),kB (kB (kA (kB (kB kV)))),kA (kA (kB (kB (kB kV)))),kB (kA (kB (kB (kB kV)))),kA (kB (kB (kB (kB kV)))),kB (kB (kB (kB (kB kV)))),kA (kA (kA (kA (kA (kA kV))))),kB (kA (kA (kA (kA (kA kV))))),kA (kB (kA (kA (kA (kA kV))))),kB (kB (kA (kA (kA (kA kV))))),kA (kA (kB (kA (kA (kA kV))))),kB (kA (kB (kA (kA (kA kV))))),kA (kB (kB (kA (kA (kA kV))))),kB (kB (kB (kA (kA (kA kV))))),kA (kA (kA (kB (kA (kA kV))))),kB (kA (kA (kB (kA (kA kV))))),kA (kB (kA (kB (kA (kA kV))))),kB (kB (kA (kB (kA (kA kV))))),kA (kA (kB (kB (kA (kA kV))))),kB (kA (kB (kB (kA (kA kV))))),kA (kB (kB (kB (kA (kA kV))))),kB (kB (kB (kB (kA (kA kV))))),kA (kA (kA (kA (kB (kA kV))))),kB (kA (kA (kA (kB (kA kV))))),kA (kB (kA (kA (kB (kA kV))))),kB (kB (kA (kA (kB (kA kV))))),kA (kA (kB (kA (kB (kA kV))))),kB (kA (kB (kA (kB (kA kV))))),kA (kB (kB (kA (kB (kA kV))))),kB (kB (kB (kA (kB (kA kV))))),kA (kA (kA (kB (kB (kA kV))))),kB (kA (kA (kB (kB (kA kV))))),kA (kB (kA (kB (kB (kA kV))))),kB (kB (kA (kB (kB (kA kV))))),kA (kA (kB (kB (kB (kA kV))))),kB (kA (kB (kB (kB (kA kV))))),kA (kB (kB (kB (kB (kA kV))))),kB (kB (kB (kB (kB (kA kV))))),kA (kA (kA (kA (kA (kB kV))))),kB (kA (kA (kA (kA (kB kV))))),kA (kB (kA (kA (kA (kB kV))))),kB (kB (kA (kA (kA (kB kV))))),kA (kA (kB (kA (kA (kB kV))))),kB (kA (kB (kA (kA (kB kV))))),kA (kB (kB (kA (kA (kB kV))))),kB (kB (kB (kA (kA (kB kV))))),kA (kA (kA (kB (kA (kB kV))))),kB (kA (kA (kB (kA (kB kV))))),kA (kB (kA (kB (kA (kB kV))))),kB (kB (kA (kB (kA (kB kV))))),kA (kA (kB (kB (kA (kB kV))))),kB (kA (kB (kB (kA (kB kV))))),kA (kB (kB (kB (kA (kB kV))))),kB (kB (kB (kB (kA (kB kV))))),kA (kA (kA (kA (kB (kB kV))))),kB (kA (kA (kA (kB (kB kV))))),kA (kB (kA (kA (kB (kB kV))))),kB (kB (kA (kA (kB (kB kV))))),kA (kA (kB (kA (kB (kB kV))))),kB (kA (kB (kA (kB (kB kV))))),kA (kB (kB (kA (kB (kB kV))))),kB (kB (kB (kA (kB (kB kV))))),kA (kA (kA (kB (kB (kB kV))))),kB (kA (kA (kB (kB (kB kV))))),kA (kB (kA (kB (kB (kB kV))))),kB (kB (kA (kB (kB (kB kV))))),kA (kA (kB (kB (kB (kB kV))))),kB (kA (kB (kB (kB (kB kV))))),kA (kB (kB (kB (kB (kB kV))))),kB (kB (kB (kB (kB (kB kV))))),kA (kA (kA (kA (kA (kA (kA kV)))))),kB (kA (kA (kA (kA (kA (kA kV)))))),kA (kB (kA (kA (kA (kA (kA kV)))))),kB (kB (kA (kA (kA (kA (kA kV)))))),kA (kA (kB (kA (kA (kA (kA kV)))))),kB (kA (kB (kA (kA (kA (kA kV)))))),kA (kB (kB (kA (kA (kA (kA kV)))))),kB (kB (kB (kA (kA (kA (kA kV)))))),kA (kA (kA (kB (kA (kA (kA kV)))))),kB (kA (kA (kB (kA (kA (kA kV)))))),kA (kB (kA (kB (kA (kA (kA kV)))))),kB (kB (kA (kB (kA (kA (kA kV)))))),kA (kA (kB (kB (kA (kA (kA kV)))))),kB (kA (kB (kB (kA (kA (kA kV)))))),kA (kB (kB (kB (kA (kA (kA kV)))))),kB (kB (kB (kB (kA (kA (kA kV)))))),kA (kA (kA (kA (kB (kA (kA kV)))))),kB (kA (kA (kA (kB (kA (kA kV)))))),kA (kB (kA (kA (kB (kA (kA kV)))))),kB (kB (kA (kA (kB (kA (kA kV)))))),kA (kA (kB (kA (kB (kA (kA kV)))))),kB (kA (kB (kA (kB (kA (kA kV)))))),kA (kB (kB (kA (kB (kA (kA kV)))))),kB (kB (kB (kA (kB (kA (kA kV)))))),kA (kA (kA (kB (kB (kA (kA kV)))))),kB (kA (kA (kB (kB (kA (kA kV)))))),kA (kB (kA (kB (kB (kA (kA kV)))))),kB (kB (kA (kB (kB (kA (kA kV)))))),kA (kA (kB (kB (kB (kA (kA kV)))))),kB (kA (kB (kB (kB (kA (kA kV)))))),kA (kB (kB (kB (kB (kA (kA kV)))))),kB (kB (kB (kB (kB (kA (kA kV)))))),kA (kA (kA (kA (kA (kB (kA kV))))))]
inductive AO where
 |c (el:Nat) (cs:List AV)
 |m (es:List (AV×AV))
 |l (q:Nat) (e:Env) (ps:List Nat) (aA body:Code) (j:Option Code)
 |si (s:List Nat) (pos:Nat)
 |mi (b:Nat) (seen:List Nat) (n:Nat)
abbrev Hp:=Tr AO
structure St where
 h:Hp
 nx:Nat
 ro:Nat
def un:AV:=.t []
inductive CI where
 |v (x:AV)
 |s (el l:Nat) (cs:List AV)
abbrev A:=List CI
inductive Ex where
 |n
 |x (id:Nat)
 |r
inductive RO where
 |no
 |one (v:AV) (s:St)
 |many (l:List (AV×St))
inductive RC where
 |no
 |one (x:Ex) (e:Env) (s:St)
 |many (l:List (Ex×Env×St))
abbrev Runner:=Code->Env->St->RC
def oR{α:Type}(a:Option α)(k:α->RO):RO:=Option.rec (motive:=λ_=>RO) .no k a
def bR(c:Bool)(k:RO):RO:=Bool.rec (motive:=λ_=>RO) .no k c
section force
variable{R:Type}
def fN(n:Nat)(k:Nat->R):R:=Nat.rec (motive:=λ_=>R) (k 0) (λm _=>k (Nat.succ m)) n
def fL{α:Type}(l:List α)(k:List α->R):R:=List.rec (motive:=λ_=>(List α->R)->R) (λk=>k []) (λx _ ih k=>ih λr=>k (x::r)) l k
def fNs(l:List Nat)(k:List Nat->R):R:=List.rec (motive:=λ_=>(List Nat->R)->R) (λk=>k []) (λx _ ih k=>fN x λx=>ih λr=>k (x::r)) l k
def fI(k:IntKind)(i:Int)(K:AV->R):R:=Int.rec (motive:=λ_=>R) (λn=>fN n λn=>K (.n k n)) (λn=>fN n λn=>K (.neg k n)) i
def fQ(b:Bool)(K:AV->R):R:=Bool.rec (motive:=λ_=>R) (K (.q false)) (K (.q true)) b
end force
def OT(v:Value):Option AV:=match v with
 |.int k i=>some (fI k i id)
 |.bool b=>some (fQ b id)
 |.string s=>some (fNs (s.data.toList.map UInt8.toNat) .str)
 |.slice none 0 0=>some .ns
 |.pointer none=>some .np
 |.map none=>some .nm
 |.nilFunc=>some .nf
 |.nilIface=>some .ni
 |.tuple ⟨[]⟩=>some un
 |_=>none
def oL{α:Type}(n:Nat):List α->List α:=Nat.rec (motive:=λ_=>List α->List α) (λl=>l) (λ_ ih l=>List.rec (motive:=λ_=>List α) [] (λ_ r _=>ih r) l) n
def yQ{α:Type}(l:List α)(n:Nat):Option α:=List.rec (motive:=λ_=>Option α) none (λx _ _=>some x) (oL n l)
def CZ(t:Nat):Fld:=Option.rec (motive:=λ_=>Fld) ⟨λ_=>none,λ_ e=>e⟩ (λf=>f) (yQ bo3 t)
def dL(t:Nat)(e:Env):Option AV:=(CZ t).g e
def wG(t:Nat)(x:AV)(e:Env):Env:=(CZ t).s x e
structure OX where
 get:Env->Option AV
def bj5(o:Operand):OX:=Operand.rec (motive:=λ_=>OX) (λt=>⟨(CZ t).g⟩) (λv=>⟨λ_=>OT v⟩) (λ_=>⟨λ_=>none⟩) (λf=>⟨λ_=>some (.f f [] [])⟩) o
def look(o:Operand)(e:Env):Option AV:=(bj5 o).get e
def qN(l:List Operand)(e:Env):Option (List AV):=
 List.rec (motive:=λ_=>Env->Option (List AV)) (λ_=>some []) (λx _ ih e=>oB (look x e) λa=>oB (ih e) λr=>some (a::r)) l e
section ct2
def BG(a:AV)(k:IntKind->Nat->RO):RO:=
 AV.rec (motive_1:=λ_=>(IntKind->Nat->RO)->RO) (motive_2:=λ_=>Unit)
   (λj n k=>k j n) (λ_ _ _=>.no) (λ_ _=>.no) (λ_ _=>.no) (λ_=>.no) (λ_=>.no) (λ_=>.no) (λ_=>.no) (λ_=>.no)
   (λ_ _ _=>.no) (λ_ _ _ _ _=>.no) (λ_ _=>.no) (λ_ _ _ _ _ _=>.no) (λ_ _=>.no) (λ_ _ _=>.no) (λ_ _ _=>.no) () (λ_ _ _ _=>()) a k
def ac6(a:AV)(k k':RO):RO:=
 AV.rec (motive_1:=λ_=>RO->RO->RO) (motive_2:=λ_=>Unit)
   (λ_ _ _ _=>.no) (λ_ _ _ _=>.no) (λb k k'=>bq b k k') (λ_ _ _=>.no) (λ_ _=>.no) (λ_ _=>.no) (λ_ _=>.no) (λ_ _=>.no) (λ_ _=>.no)
   (λ_ _ _ _=>.no) (λ_ _ _ _ _ _=>.no) (λ_ _ _=>.no) (λ_ _ _ _ _ _ _=>.no) (λ_ _ _=>.no) (λ_ _ _ _=>.no) (λ_ _ _ _=>.no) () (λ_ _ _ _=>()) a k k'
def mQ(a:AV)(k:Nat->Nat->RO):RO:=
 AV.rec (motive_1:=λ_=>(Nat->Nat->RO)->RO) (motive_2:=λ_=>Unit)
   (λ_ _ _=>.no) (λ_ _ _=>.no) (λ_ _=>.no) (λ_ _=>.no) (λ_=>.no) (λ_=>.no) (λ_=>.no) (λ_=>.no) (λ_=>.no)
   (λb o k=>k b o) (λ_ _ _ _ _=>.no) (λ_ _=>.no) (λ_ _ _ _ _ _=>.no) (λ_ _=>.no) (λ_ _ _=>.no) (λ_ _ _=>.no) () (λ_ _ _ _=>()) a k
def UK(a:AV)(k:Nat->Nat->Nat->Option Nat->RO):RO:=
 AV.rec (motive_1:=λ_=>(Nat->Nat->Nat->Option Nat->RO)->RO) (motive_2:=λ_=>Unit)
   (λ_ _ _=>.no) (λ_ _ _=>.no) (λ_ _=>.no) (λ_ _=>.no) (λ_=>.no) (λ_=>.no) (λ_=>.no) (λ_=>.no) (λ_=>.no)
   (λ_ _ _=>.no) (λb o l c k=>k b o l c) (λ_ _=>.no) (λ_ _ _ _ _ _=>.no) (λ_ _=>.no) (λ_ _ _=>.no) (λ_ _ _=>.no) () (λ_ _ _ _=>()) a k
def a98(a:AV)(k:FuncId->List AV->List AV->RO)(ky:Nat->RO):RO:=
 AV.rec (motive_1:=λ_=>(FuncId->List AV->List AV->RO)->(Nat->RO)->RO) (motive_2:=λ_=>Unit)
   (λ_ _ _ _=>.no) (λ_ _ _ _=>.no) (λ_ _ _=>.no) (λ_ _ _=>.no) (λ_ _=>.no) (λ_ _=>.no) (λ_ _=>.no) (λ_ _=>.no) (λ_ _=>.no)
   (λ_ _ _ _=>.no) (λ_ _ _ _ _ _=>.no) (λ_ _ _=>.no) (λf fs cs _ _ k _=>k f fs cs) (λb _ ky=>ky b) (λ_ _ _ _=>.no) (λ_ _ _ _=>.no) () (λ_ _ _ _=>()) a k ky
def a97(o:AO)(k:Nat->List AV->RO):RO:=
 AO.rec (motive:=λ_=>(Nat->List AV->RO)->RO) (λel cs k=>k el cs) (λ_ _=>.no) (λ_ _ _ _ _ _ _=>.no) (λ_ _ _=>.no) (λ_ _ _ _=>.no) o k
def cellsOf(a:AV):List AV:=
 AV.rec (motive_1:=λ_=>AV->List AV) (motive_2:=λ_=>Unit)
   (λ_ _ a=>[a]) (λ_ _ a=>[a]) (λ_ a=>[a]) (λ_ a=>[a]) (λa=>[a]) (λa=>[a]) (λa=>[a]) (λa=>[a]) (λa=>[a])
   (λ_ _ a=>[a]) (λ_ _ _ _ a=>[a]) (λ_ a=>[a]) (λ_ _ _ _ _ a=>[a]) (λ_ a=>[a]) (λcs _ _=>cs) (λ_ _ _=>[]) () (λ_ _ _ _=>()) a a
end ct2
def rD{α:Type}(n:Nat):List α->Option (List α):=Nat.rec (motive:=λ_=>List α->Option (List α)) (λ_=>some []) (λ_ ih l=>List.rec (motive:=λ_=>Option (List α)) none (λx r _=>oB (ih r) λxs=>some (x::xs)) l) n
def dW{α:Type}(a b:List α):List α:=List.rec (motive:=λ_=>List α) b (λx _ ih=>x::ih) a
def bG5{α:Type}(xs:List α):List α->Option (List α):=
 List.rec (motive:=λ_=>List α->Option (List α)) some (λx _ ih l=>List.rec (motive:=λ_=>Option (List α)) none (λ_ r _=>oB (ih r) λr=>some (x::r)) l) xs
def uY{α:Type}(n:Nat)(xs:List α):List α->Option (List α):=
 Nat.rec (motive:=λ_=>List α->Option (List α)) (bG5 xs) (λ_ ih l=>List.rec (motive:=λ_=>Option (List α)) none (λx r _=>oB (ih r) λr=>some (x::r)) l) n
def iO{α β:Type}(f:α->β)(l:List α):List β:=List.rec (motive:=λ_=>List β) [] (λx _ ih=>f x::ih) l
def bI{α:Type}(l:List α):Nat:=List.rec (motive:=λ_=>Nat) 0 (λ_ _ ih=>Nat.succ ih) l
def yN(a:List Nat):List Nat->Bool:=List.rec (motive:=λ_=>List Nat->Bool) (λb=>List.rec (motive:=λ_=>Bool) true (λ_ _ _=>false) b)
 (λx _ ih b=>List.rec (motive:=λ_=>Bool) false (λy r _=>bq (Nat.beq x y) (ih r) false) b) a
def QF(a:List Nat):List Nat->Bool:=List.rec (motive:=λ_=>List Nat->Bool) (λb=>List.rec (motive:=λ_=>Bool) false (λ_ _ _=>true) b)
 (λx _ ih b=>List.rec (motive:=λ_=>Bool) false (λy r _=>bq (Nat.beq x y) (ih r) (Nat.blt x y)) b) a
section tables
variable(ty:Nat->Option TI)
def ad2(i:TI):Option (List AV):=List.rec (motive:=λ_=>Option (List AV)) (some []) (λx _ ih=>oB (OT x) λa=>oB ih λr=>some (a::r)) i.zero
def UO(i:TI)(n:Nat):Option (List AV):=oB (ad2 i) λz=>some (Nat.rec (motive:=λ_=>List AV) [] (λ_ ih=>dW z ih) n)
def sizeT(t:Nat):Option Nat:=oB (ty t) λi=>some i.size
def ND(t:Nat):Option (List AV):=oB (ty t) λi=>ad2 i
def ch2(t:Nat):Option Bool:=oB (ty t) λi=>some i.isAgg
def bm3(t:Nat):Option (Bool×Nat):=oB (ty t) λi=>match i.desc with|.slice el=>some (true,el)|.array _ el=>some (false,el)|_=>none
def bn4(t k:Nat):Option (Nat×Nat):=oB (ty t) λi=>match i.desc with|.struct fs=>(match fs[k]? with|some f=>some (f.offset,f.type)|none=>none)|_=>none
def aK3(t:Nat):Bool:=match ty t with|some { desc:=.string, .. }=>true|_=>false
def TK(t:Nat):Option Nat:=oB (ty t) λi=>match i.desc with|.slice el=>some el|_=>none
end tables
end
end Go.Ev
end
section
namespace Go.Ev
open Go Go.F6 Go.Proofs Go.Proofs.YtibiibjbmhckgaaGreatDoor
noncomputable section
def tyB:Bt TI:=(.nd 148 bV9 (.nd 63 b21 (.nd 31 bZ4 (.nd 9 ti9 (.nd 4 ti4 (.nd 3 nT (.nd 2 ti2 .lf .lf) .lf) (.nd 5 ti5 .lf .lf)) (.nd 26 au0 (.nd 22 at7 (.nd 21 bX1 .lf .lf) .lf) (.nd 27 bY5 .lf .lf))) (.nd 50 b06 (.nd 36 bZ5 (.nd 34 au1 (.nd 33 FI .lf .lf) .lf) (.nd 47 au3 .lf .lf)) (.nd 61 b08 (.nd 60 b07 (.nd 52 vN .lf .lf) .lf) (.nd 62 b09 .lf .lf)))) (.nd 104 bV1 (.nd 72 b30 (.nd 67 b26 (.nd 65 b24 (.nd 64 b23 .lf .lf) .lf) (.nd 71 b29 .lf .lf)) (.nd 93 b33 (.nd 90 b31 (.nd 75 au4 .lf .lf) .lf) (.nd 98 b34 .lf .lf))) (.nd 125 bV6 (.nd 113 bV4 (.nd 112 bV3 (.nd 108 bV2 .lf .lf) .lf) (.nd 115 bV5 .lf .lf)) (.nd 136 bV7 (.nd 134 FH .lf .lf) (.nd 145 bV8 .lf .lf))))) (.nd 261 bY0 (.nd 191 bW8 (.nd 177 bW3 (.nd 154 at6 (.nd 152 bW1 (.nd 149 bW0 .lf .lf) .lf) (.nd 156 bW2 .lf .lf)) (.nd 183 bW6 (.nd 181 bW5 (.nd 180 bW4 .lf .lf) .lf) (.nd 185 bW7 .lf .lf))) (.nd 245 bX5 (.nd 217 bX3 (.nd 206 bX0 (.nd 193 bW9 .lf .lf) .lf) (.nd 230 bX4 .lf .lf)) (.nd 257 bX8 (.nd 254 bX7 (.nd 252 bX6 .lf .lf) .lf) (.nd 259 bX9 .lf .lf)))) (.nd 293 bZ1 (.nd 271 bY6 (.nd 266 bY3 (.nd 264 bY2 (.nd 262 bY1 .lf .lf) .lf) (.nd 268 bY4 .lf .lf)) (.nd 280 bY9 (.nd 277 bY8 (.nd 273 bY7 .lf .lf) .lf) (.nd 284 bZ0 .lf .lf))) (.nd 453 bZ8 (.nd 367 bZ6 (.nd 305 bZ3 (.nd 296 bZ2 .lf .lf) .lf) (.nd 376 bZ7 .lf .lf)) (.nd 455 b03 (.nd 454 bZ9 .lf .lf) (.nd 457 b04 .lf .lf))))))
noncomputable def fnB:Bt Func:=(.nd 189 Tryz.f189 (.nd 100 Tryz.f100 (.nd 58 Tryz.f58 (.nd 29 Tryz.f29 (.nd 20 Tryz.f20 (.nd 11 Tryz.f11 (.nd 9 Tryz.f9 (.nd 5 Tryz.f5 .lf .lf) (.nd 10 Tryz.f10 .lf .lf)) (.nd 15 Tryz.f15 (.nd 12 Tryz.f12 .lf .lf) (.nd 19 Tryz.f19 .lf .lf))) (.nd 24 Tryz.f24 (.nd 22 Tryz.f22 (.nd 21 Tryz.f21 .lf .lf) (.nd 23 Tryz.f23 .lf .lf)) (.nd 26 Tryz.f26 (.nd 25 Tryz.f25 .lf .lf) (.nd 27 Tryz.f27 .lf .lf)))) (.nd 49 Tryz.f49 (.nd 38 Tryz.f38 (.nd 32 Tryz.f32 (.nd 31 Tryz.f31 .lf .lf) (.nd 37 Tryz.f37 .lf .lf)) (.nd 40 Tryz.f40 (.nd 39 Tryz.f39 .lf .lf) (.nd 41 Tryz.f41 .lf .lf))) (.nd 54 Tryz.f54 (.nd 52 Tryz.f52 (.nd 51 Tryz.f51 .lf .lf) (.nd 53 Tryz.f53 .lf .lf)) (.nd 56 Tryz.f56 (.nd 55 Tryz.f55 .lf .lf) (.nd 57 Tryz.f57 .lf .lf))))) (.nd 75 Tryz.f75 (.nd 66 Tryz.f66 (.nd 62 Tryz.f62 (.nd 60 Tryz.f60 (.nd 59 Tryz.f59 .lf .lf) (.nd 61 Tryz.f61 .lf .lf)) (.nd 64 Tryz.f64 (.nd 63 Tryz.f63 .lf .lf) (.nd 65 Tryz.f65 .lf .lf))) (.nd 70 Tryz.f70 (.nd 68 Tryz.f68 (.nd 67 Tryz.f67 .lf .lf) (.nd 69 Tryz.f69 .lf .lf)) (.nd 73 Tryz.f73 (.nd 72 Tryz.f72 .lf .lf) (.nd 74 Tryz.f74 .lf .lf)))) (.nd 85 Tryz.f85 (.nd 79 Tryz.f79 (.nd 77 Tryz.f77 (.nd 76 Tryz.f76 .lf .lf) (.nd 78 Tryz.f78 .lf .lf)) (.nd 83 Tryz.f83 (.nd 82 Tryz.f82 .lf .lf) (.nd 84 Tryz.f84 .lf .lf))) (.nd 89 Tryz.f89 (.nd 87 Tryz.f87 (.nd 86 Tryz.f86 .lf .lf) (.nd 88 Tryz.f88 .lf .lf)) (.nd 93 Tryz.f93 (.nd 91 Tryz.f91 .lf .lf) (.nd 98 Tryz.f98 .lf .lf)))))) (.nd 132 Tryz.f132 (.nd 116 Tryz.f116 (.nd 108 Tryz.f108 (.nd 104 Tryz.f104 (.nd 102 Tryz.f102 (.nd 101 Tryz.f101 .lf .lf) (.nd 103 Tryz.f103 .lf .lf)) (.nd 106 Tryz.f106 (.nd 105 Tryz.f105 .lf .lf) (.nd 107 Tryz.f107 .lf .lf))) (.nd 112 Tryz.f112 (.nd 110 Tryz.f110 (.nd 109 Tryz.f109 .lf .lf) (.nd 111 Tryz.f111 .lf .lf)) (.nd 114 Tryz.f114 (.nd 113 Tryz.f113 .lf .lf) (.nd 115 Tryz.f115 .lf .lf)))) (.nd 124 Tryz.f124 (.nd 120 Tryz.f120 (.nd 118 Tryz.f118 (.nd 117 Tryz.f117 .lf .lf) (.nd 119 Tryz.f119 .lf .lf)) (.nd 122 Tryz.f122 (.nd 121 Tryz.f121 .lf .lf) (.nd 123 Tryz.f123 .lf .lf))) (.nd 128 Tryz.f128 (.nd 126 Tryz.f126 (.nd 125 Tryz.f125 .lf .lf) (.nd 127 Tryz.f127 .lf .lf)) (.nd 130 Tryz.f130 (.nd 129 Tryz.f129 .lf .lf) (.nd 131 Tryz.f131 .lf .lf))))) (.nd 166 Tryz.f166 (.nd 144 Tryz.f144 (.nd 140 Tryz.f140 (.nd 138 Tryz.f138 (.nd 135 Tryz.f135 .lf .lf) (.nd 139 Tryz.f139 .lf .lf)) (.nd 142 Tryz.f142 (.nd 141 Tryz.f141 .lf .lf) (.nd 143 Tryz.f143 .lf .lf))) (.nd 148 Tryz.f148 (.nd 146 Tryz.f146 (.nd 145 Tryz.f145 .lf .lf) (.nd 147 Tryz.f147 .lf .lf)) (.nd 161 Tryz.f161 (.nd 149 Tryz.f149 .lf .lf) (.nd 165 Tryz.f165 .lf .lf)))) (.nd 181 Tryz.f181 (.nd 177 Tryz.f177 (.nd 168 Tryz.f168 (.nd 167 Tryz.f167 .lf .lf) (.nd 170 Tryz.f170 .lf .lf)) (.nd 179 Tryz.f179 (.nd 178 Tryz.f178 .lf .lf) (.nd 180 Tryz.f180 .lf .lf))) (.nd 185 Tryz.f185 (.nd 183 Tryz.f183 (.nd 182 Tryz.f182 .lf .lf) (.nd 184 Tryz.f184 .lf .lf)) (.nd 188 Tryz.f188 (.nd 186 Tryz.f186 .lf .lf) .lf)))))) (.nd 301 Tryz.f301 (.nd 239 Tryz.f239 (.nd 212 Tryz.f212 (.nd 204 Tryz.f204 (.nd 193 Tryz.f193 (.nd 191 Tryz.f191 (.nd 190 Tryz.f190 .lf .lf) (.nd 192 Tryz.f192 .lf .lf)) (.nd 202 Tryz.f202 (.nd 201 Tryz.f201 .lf .lf) (.nd 203 Tryz.f203 .lf .lf))) (.nd 208 Tryz.f208 (.nd 206 Tryz.f206 (.nd 205 Tryz.f205 .lf .lf) (.nd 207 Tryz.f207 .lf .lf)) (.nd 210 Tryz.f210 (.nd 209 Tryz.f209 .lf .lf) (.nd 211 Tryz.f211 .lf .lf)))) (.nd 231 Tryz.f231 (.nd 223 Tryz.f223 (.nd 214 Tryz.f214 (.nd 213 Tryz.f213 .lf .lf) (.nd 220 Tryz.f220 .lf .lf)) (.nd 225 Tryz.f225 (.nd 224 Tryz.f224 .lf .lf) (.nd 230 Tryz.f230 .lf .lf))) (.nd 235 Tryz.f235 (.nd 233 Tryz.f233 (.nd 232 Tryz.f232 .lf .lf) (.nd 234 Tryz.f234 .lf .lf)) (.nd 237 Tryz.f237 (.nd 236 Tryz.f236 .lf .lf) (.nd 238 Tryz.f238 .lf .lf))))) (.nd 276 Tryz.f276 (.nd 254 Tryz.f254 (.nd 250 Tryz.f250 (.nd 247 Tryz.f247 (.nd 246 Tryz.f246 .lf .lf) (.nd 249 Tryz.f249 .lf .lf)) (.nd 252 Tryz.f252 (.nd 251 Tryz.f251 .lf .lf) (.nd 253 Tryz.f253 .lf .lf))) (.nd 260 Tryz.f260 (.nd 257 Tryz.f257 (.nd 256 Tryz.f256 .lf .lf) (.nd 258 Tryz.f258 .lf .lf)) (.nd 274 Tryz.f274 (.nd 262 Tryz.f262 .lf .lf) (.nd 275 Tryz.f275 .lf .lf)))) (.nd 290 Tryz.f290 (.nd 283 Tryz.f283 (.nd 278 Tryz.f278 (.nd 277 Tryz.f277 .lf .lf) (.nd 282 Tryz.f282 .lf .lf)) (.nd 288 Tryz.f288 (.nd 284 Tryz.f284 .lf .lf) (.nd 289 Tryz.f289 .lf .lf))) (.nd 297 Tryz.f297 (.nd 294 Tryz.f294 (.nd 293 Tryz.f293 .lf .lf) (.nd 296 Tryz.f296 .lf .lf)) (.nd 299 Tryz.f299 (.nd 298 Tryz.f298 .lf .lf) (.nd 300 Tryz.f300 .lf .lf)))))) (.nd 369 Tryz.f369 (.nd 327 Tryz.f327 (.nd 319 Tryz.f319 (.nd 312 Tryz.f312 (.nd 310 Tryz.f310 (.nd 309 Tryz.f309 .lf .lf) (.nd 311 Tryz.f311 .lf .lf)) (.nd 317 Tryz.f317 (.nd 316 Tryz.f316 .lf .lf) (.nd 318 Tryz.f318 .lf .lf))) (.nd 323 Tryz.f323 (.nd 321 Tryz.f321 (.nd 320 Tryz.f320 .lf .lf) (.nd 322 Tryz.f322 .lf .lf)) (.nd 325 Tryz.f325 (.nd 324 Tryz.f324 .lf .lf) (.nd 326 Tryz.f326 .lf .lf)))) (.nd 336 Tryz.f336 (.nd 331 Tryz.f331 (.nd 329 Tryz.f329 (.nd 328 Tryz.f328 .lf .lf) (.nd 330 Tryz.f330 .lf .lf)) (.nd 333 Tryz.f333 (.nd 332 Tryz.f332 .lf .lf) (.nd 335 Tryz.f335 .lf .lf))) (.nd 341 Tryz.f341 (.nd 338 Tryz.f338 (.nd 337 Tryz.f337 .lf .lf) (.nd 339 Tryz.f339 .lf .lf)) (.nd 367 Tryz.f367 (.nd 343 Tryz.f343 .lf .lf) (.nd 368 Tryz.f368 .lf .lf))))) (.nd 406 Tryz.f406 (.nd 381 Tryz.f381 (.nd 375 Tryz.f375 (.nd 372 Tryz.f372 (.nd 371 Tryz.f371 .lf .lf) (.nd 373 Tryz.f373 .lf .lf)) (.nd 379 Tryz.f379 (.nd 376 Tryz.f376 .lf .lf) (.nd 380 Tryz.f380 .lf .lf))) (.nd 398 Tryz.f398 (.nd 396 Tryz.f396 (.nd 382 Tryz.f382 .lf .lf) (.nd 397 Tryz.f397 .lf .lf)) (.nd 400 Tryz.f400 (.nd 399 Tryz.f399 .lf .lf) (.nd 401 Tryz.f401 .lf .lf)))) (.nd 450 Tryz.f450 (.nd 433 Tryz.f433 (.nd 430 Tryz.f430 (.nd 409 Tryz.f409 .lf .lf) (.nd 431 Tryz.f431 .lf .lf)) (.nd 435 Tryz.f435 (.nd 434 Tryz.f434 .lf .lf) (.nd 441 Tryz.f441 .lf .lf))) (.nd 456 Tryz.f456 (.nd 452 Tryz.f452 (.nd 451 Tryz.f451 .lf .lf) (.nd 453 Tryz.f453 .lf .lf)) (.nd 479 Tryz.f479 (.nd 470 Tryz.f470 .lf .lf) .lf)))))))
def H8(t:Nat):Option TI:=tyB.get t
def DC(f:Nat):Option Func:=fnB.get f
def QA(p:List Nat):List Nat->Bool:=List.rec (motive:=λ_=>List Nat->Bool) (λ_=>true) (λx _ ih s=>List.rec (motive:=λ_=>Bool) false (λy r _=>bq (Nat.beq x y) (ih r) false) s) p
def idxOf(p:List Nat)(s:List Nat):Nat->Option Nat:=List.rec (motive:=λ_=>Nat->Option Nat) (λi=>bq (QA p []) (some i) none) (λx r ih i=>bq (QA p (x::r)) (some i) (ih (Nat.succ i))) s
def bu6(r:Option Nat):Option AV:=match r with|some i=>fN i λi=>some (.n .i64 i)|none=>some (.neg .i64 0)
def countB(b:Nat)(s:List Nat):Nat:=List.rec (motive:=λ_=>Nat) 0 (λx _ ih=>bq (Nat.beq x b) (Nat.succ ih) ih) s
def aS7(s:List Nat)(n:Nat):List Nat:=Nat.rec (motive:=λ_=>List Nat) [] (λ_ ih=>dW s ih) n
def aC0(l:List AV):Option AV:=match l with|[.str s,.str p]=>bq (Nat.ble (bI s) 1000000) (bu6 (idxOf p s 0)) none|_=>none
def aB9(l:List AV):Option AV:=match l with|[.str s,.n .u8 b]=>bq (Nat.blt b 256) (fN (countB b s) λn=>some (.n .i64 n)) none|_=>none
def aC3(l:List AV):Option AV:=match l with|[.str s,.n .i64 n]=>bq (Nat.ble n 4096) (bq (Nat.ble (bI s) 1000000) (some (fNs (aS7 s n) .str)) none) none|_=>none
def aC4(l:List AV):Option AV:=match l with|[.p b o]=>some (.p b o)|_=>none
def aD7:Bt (List AV->Option AV):=.nd 229 aC0 (.nd 18 aC3 .lf .lf) .lf
def aD9:Bt (List AV->Option AV):=.nd 163 aC4 .lf (.nd 387 aB9 .lf .lf)
def aD6(f:Nat):Option (List AV->Option AV):=aD7.get f
def aD8(f:Nat):Option (List AV->Option AV):=aD9.get f
def XO(f:Nat):Bool:=bq (Nat.beq f 333) true (Nat.beq f 26)
def kQ:Nat:=145
def af4:Nat:=115
def mxB:Nat:=0
def TD(t:Nat):Bool:=Nat.beq t 50
end
end Go.Ev
end
